import Derived.Test.YtbioclollbemeaaProg
import Derived.Test.YtbioclollbemeaaB4
import Derived.KernelRfl
import Derived.Test.YtbioclollbemeaaB3
set_option linter.all false
section
/-
  TYPES: printed by a program of our own (wip/gen/st.py). The types that the functions' code names, as kinds.
-/
set_option linter.all false
namespace Go.Ev
open Go.Proofs

abbrev kT32 : Kind := (.pair (.int .i64) (.pair (.int .i64) (.pair (.int .i64) (.pair (.int .i64) (.pair (.int .i64) .unit)))))
abbrev kA32u8 : Kind := (.arr 32 (.int .u8))
abbrev kT38 : Kind := (.pair (.int .i64) (.pair kA32u8 (.pair (.int .i64) .unit)))
abbrev kT46 : Kind := (.pair (.int .i64) (.pair (.int .i64) (.pair (.int .i64) (.pair kT32 .unit))))
abbrev kT53 : Kind := (.pair (.int .i64) (.pair (.int .i64) (.pair .bool (.pair kT38 (.pair (.int .i64) (.pair (.sl kT38) (.pair (.int .i64) (.pair (.int .i64) (.pair (.int .i64) (.pair .bool .unit))))))))))
abbrev kT62 : Kind := (.pair (.int .i64) (.pair (.int .i64) (.pair kT38 (.pair (.int .i64) (.pair .bool (.pair .opq (.pair (.int .i64) (.pair (.int .i64) (.pair (.int .i64) (.pair .bool .unit))))))))))
def gls : GL := []
def tys : List (TypeId × TI) := [(3, ⟨(.int .i64), .prim, 8, true⟩), (4, ⟨.bool, .prim, 1, true⟩), (5, ⟨(.int .u8), .prim, 1, true⟩), (26, ⟨(.sl kT32), (.slice 33), 24, false⟩), (27, ⟨.opq, (.ptr 63), 8, false⟩), (28, ⟨(.int .i64), .prim, 8, true⟩), (31, ⟨(.sl kT38), (.slice 39), 24, false⟩), (33, ⟨kT32, (.struct [3, 3, 3, 3, 3]), 40, true⟩), (36, ⟨kA32u8, (.array 32 5), 32, true⟩), (37, ⟨kA32u8, (.array 32 5), 32, true⟩), (39, ⟨kT38, (.struct [3, 37, 3]), 48, true⟩), (47, ⟨kT46, (.struct [3, 3, 3, 33]), 64, true⟩), (51, ⟨kT38, (.struct [3, 36, 3]), 48, true⟩), (52, ⟨(.sl kT38), (.slice 51), 24, false⟩), (54, ⟨kT53, (.struct [3, 3, 4, 51, 3, 52, 3, 3, 3, 4]), 136, false⟩), (61, ⟨.opq, (.map 39 3), 8, false⟩), (63, ⟨kT62, (.struct [3, 3, 39, 3, 4, 61, 3, 3, 3, 4]), 120, false⟩)]
theorem tysB : tys.all (tyB Try.prog tys) = true := by kernel_rfl
theorem follows : Try.prog.follows .mixedOrders = true := by kernel_rfl
end Go.Ev
end

section
/-
  FUNCTION 26: printed by a program of our own (wip/gen/st.py). 'masthead/peer.right', in continuation form; the evaluator gives it.
-/
set_option linter.all false
set_option maxRecDepth 100000
namespace Go.Ev
open Go.Proofs
variable {A : Type}

-- ============================================================ right (function 26)
def right_p (n : Nat) (a0 : Int) (a1 : Int) (k : Bool → Option A) : Option A :=
  bif (decide (a0 ≥ 1)) then
    bif (decide (a0 ≤ 65536)) then
      bif (decide (a1 ≥ a0)) then
        k (decide (a1 ≤ 1048576))
      else
        k false
    else
      k false
  else
    k false

def right_k (n : Nat) (a0 : Int) (a1 : Int) (k : Bool → Option A) : Option A := right_p n a0 a1 k

noncomputable def right_E (n : Nat) : Env A := ⟨tys, gls, [], [], []⟩
theorem right_T {A : Type} (n : Nat) : TyOK Try.prog (right_E (A := A) n) := tyOK_of rfl tysB
theorem right_fns (n : Nat) : FnsOK Try.prog (right_E (A := A) n) := AllOK.env rfl rfl AllOK.nil
theorem right_eqg (n : Nat) (a0 : Int) (a1 : Int) (k : AV → List Blk → Option A) : fnK (right_E n) Try.f26 [.pure] [.p (.int .i64) a0, .p (.int .i64) a1] [] k = right_p n a0 a1 (fun r0 => k (.p .bool r0) []) := by kernel_rfl
theorem right_eq (n : Nat) (a0 : Int) (a1 : Int) (k : AV → List Blk → Option A) : fnK (right_E n) Try.f26 [.pure] [.p (.int .i64) a0, .p (.int .i64) a1] [] k = right_k n a0 a1 (fun r0 => k (.p .bool r0) []) := right_eqg n a0 a1 k
def right_ent (g : Int → Int → (Bool → Option A) → Option A) : Entry A := pureE fun args k => args2 args (.int .i64) (.int .i64) fun a0 a1 => g a0 a1 (fun r0 => k (.p .bool r0) [])
theorem right_lo (n : Nat) : ∀ c, Try.f26.body = some c → ∀ q ∈ loopsOf 0 c, ∀ L, (right_E (A := A) n).lps.lookup q.1 = some L → LoopOK Try.prog gls q.2 L :=
  lo_body (E := right_E n) (by kernel_rfl : Try.f26.body = some (bodyOf Try.f26)) (lo_of (E := right_E n) (by kernel_rfl : loopsOf 0 (bodyOf Try.f26) = []) lo_nil)
theorem right_ok (n : Nat) : FnOK Try.prog gls 26 (right_ent (A := A) (right_k n)) :=
  FnOK.of (right_T n) (right_fns n) follows ⟨Try.func26, by kernel_rfl⟩ (right_lo n) (rm := [.pure]) fun args k out h => by
    obtain ⟨a0, a1, e, h1⟩ := args2_sound h
    subst e; rw [right_eq]; exact h1

end Go.Ev
end

section
/-
  FUNCTION 8: printed by a program of our own (wip/gen/st.py). 'masthead/peer.Delay', in continuation form; the evaluator gives it.
-/
set_option linter.all false
set_option maxRecDepth 100000
namespace Go.Ev
open Go.Proofs
variable {A : Type}

-- ============================================================ delay (function 8)
def delay_b0 (g_right : Int → Int → (Bool → Option A) → Option A) (n : Nat) (most : Int) (fails : Int) (k0 : Int → Option A) (r : Int → Int → Option A) (d_ : Int) (n_ : Int) : Option A :=
  bif (decide (n_ < fails)) then
    bif (decide (d_ < most)) then
      r (shl .i64 d_ 1) (IntKind.wrap .i64 (n_ + 1))
    else
      k0 d_
  else
    k0 d_

def delay_l0 (g_right : Int → Int → (Bool → Option A) → Option A) (n : Nat) (most : Int) (fails : Int) (k0 : Int → Option A) : Nat → Int → Int → Option A
  | 0 => fun _ _ => none
  | f + 1 => delay_b0 g_right n most fails k0 (delay_l0 g_right n most fails k0 f)

def delay_p (g_right : Int → Int → (Bool → Option A) → Option A) (n : Nat) (a0 : Int) (a1 : Int) (a2 : Int) (k : Int → Option A) : Option A :=
  g_right a0 a1 fun r1 =>
  bif (!r1) then
    k 0
  else
    bif (decide (a2 < 1)) then
      k 0
    else
      delay_l0 g_right n a1 a2 (fun y2 =>
        k (imin y2 a1)) n a0 1

def delay_k (n : Nat) (a0 : Int) (a1 : Int) (a2 : Int) (k : Int → Option A) : Option A := delay_p (right_k n) n a0 a1 a2 k

noncomputable def delay_c0 : Code := codeAt [1, 1, 1, 0, 1, 0, 0] (bodyOf Try.f8)
def delay_d0 : List Nat := [0, 6, 9, 10, 11, 12, 13, 14, 15, 16, 17, 18, 19, 20, 21, 22, 23, 24, 25, 26, 27, 28, 29]
def delay_y0 : List Nat := [0, 2, 3, 4, 5, 6, 8, 9, 10, 11, 12, 13, 14, 15, 16, 17, 18, 19, 20, 21, 22, 23, 24, 25, 26, 27, 28, 29, 30, 31, 32]
def delay_sh0 : Shape := ⟨[.any, (.p (.int .i64)), (.p (.int .i64)), .any, .any, .any, .any, (.p (.int .i64)), (.p (.int .i64)), .any, .any, .any, .any, .any, .any, .any, .any, .any, .any, .any, .any, .any, .any, .any, .any, .any, .any, .any, .any, .any, .any, .any, .any], [], 0⟩
def delay_x0_0 (most : Int) (fails : Int) (z1 : Int) : St := ⟨[.any, .p (.int .i64) most, .any, .any, .any, .any, .any, .p (.int .i64) z1, .any, .any, .any, .any, .any, .any, .any, .any, .any, .any, .any, .any, .any, .any, .any, .any, .any, .any, .any, .any, .any, .any, .any, .any, .any], [], 0⟩
def delay_g0 (g_right : Int → Int → (Bool → Option A) → Option A) (n : Nat) (d : delay_sh0.den) (k : Ex → St → Option A) : Option A :=
  delay_l0 g_right n d.1.2.1 d.1.2.2.1 (fun z1 => k (.exit 0) (delay_x0_0 d.1.2.1 d.1.2.2.1 z1)) n d.1.2.2.2.2.2.2.2.1 d.1.2.2.2.2.2.2.2.2.1
noncomputable def delay_E (g_right : Int → Int → (Bool → Option A) → Option A) (n : Nat) : Env A := ⟨tys, gls, [(26, right_ent g_right)], [(0, loopE delay_d0 delay_sh0 (delay_g0 g_right n))], []⟩
theorem delay_T (g_right : Int → Int → (Bool → Option A) → Option A) (n : Nat) : TyOK Try.prog (delay_E g_right n) := tyOK_of rfl tysB
theorem delay_fns (n : Nat) : FnsOK Try.prog (delay_E (A := A) (right_k n) n) := AllOK.env rfl rfl (AllOK.cons (right_ok n) AllOK.nil)
noncomputable def delay_LK0 (g_right : Int → Int → (Bool → Option A) → Option A) (n : Nat) (most : Int) (fails : Int) (k : Ex → St → Option A) (f : Nat) (d_ : Int) (n_ : Int) : Option A := loopK (codeK (delay_E g_right n) 1 delay_c0) delay_d0 delay_y0 f (⟨[.any, .p (.int .i64) most, .p (.int .i64) fails, .any, .any, .any, .any, .p (.int .i64) d_, .p (.int .i64) n_, .any, .any, .any, .any, .any, .any, .any, .any, .any, .any, .any, .any, .any, .any, .any, .any, .any, .any, .any, .any, .any, .any, .any, .any], [], 0⟩) k
theorem delay_st0 (g_right : Int → Int → (Bool → Option A) → Option A) (n f : Nat) (most : Int) (fails : Int) (k : Ex → St → Option A) (d_ : Int) (n_ : Int) : delay_LK0 g_right n most fails k (f + 1) d_ n_ = delay_b0 g_right n most fails (fun z1 => k (.exit 0) (delay_x0_0 most fails z1)) (delay_LK0 g_right n most fails k f) d_ n_ := by kernel_rfl
theorem delay_le0 (g_right : Int → Int → (Bool → Option A) → Option A) (n : Nat) (most : Int) (fails : Int) (k : Ex → St → Option A) : ∀ (f : Nat) (d_ : Int) (n_ : Int), delay_LK0 g_right n most fails k f d_ n_ = delay_l0 g_right n most fails (fun z1 => k (.exit 0) (delay_x0_0 most fails z1)) f d_ n_ := by
  intro f
  induction f with
  | zero => intros; kernel_rfl
  | succ f ih => intro d_ n_; exact (delay_st0 g_right n f most fails k d_ n_).trans ((congrArg (fun r => delay_b0 g_right n most fails (fun z1 => k (.exit 0) (delay_x0_0 most fails z1)) r d_ n_) (funext fun d_ => funext fun n_ => ih d_ n_)).trans (by kernel_rfl))
theorem delay_lo0 (n : Nat) : LoopOK Try.prog gls delay_c0 (loopE delay_d0 delay_sh0 (delay_g0 (A := A) (right_k n) n)) :=
  LoopOK.of (delay_T (right_k n) n) (delay_fns n) follows (j := 1) (n := n) (xdead := delay_y0) (lo_of (by kernel_rfl : loopsOf 1 delay_c0 = []) lo_nil) fun d k => Eq.trans (by kernel_rfl) (delay_le0 (right_k n) n d.1.2.1 d.1.2.2.1 k n d.1.2.2.2.2.2.2.2.1 d.1.2.2.2.2.2.2.2.2.1)
theorem delay_eqg (g_right : Int → Int → (Bool → Option A) → Option A) (n : Nat) (a0 : Int) (a1 : Int) (a2 : Int) (k : AV → List Blk → Option A) : fnK (delay_E g_right n) Try.f8 [.pure] [.p (.int .i64) a0, .p (.int .i64) a1, .p (.int .i64) a2] [] k = delay_p g_right n a0 a1 a2 (fun r0 => k (.p (.int .i64) r0) []) := by kernel_rfl
theorem delay_eq (n : Nat) (a0 : Int) (a1 : Int) (a2 : Int) (k : AV → List Blk → Option A) : fnK (delay_E (right_k n) n) Try.f8 [.pure] [.p (.int .i64) a0, .p (.int .i64) a1, .p (.int .i64) a2] [] k = delay_k n a0 a1 a2 (fun r0 => k (.p (.int .i64) r0) []) := delay_eqg (right_k n) n a0 a1 a2 k
def delay_ent (g : Int → Int → Int → (Int → Option A) → Option A) : Entry A := pureE fun args k => args3 args (.int .i64) (.int .i64) (.int .i64) fun a0 a1 a2 => g a0 a1 a2 (fun r0 => k (.p (.int .i64) r0) [])
theorem delay_lo (n : Nat) : ∀ c, Try.f8.body = some c → ∀ q ∈ loopsOf 0 c, ∀ L, (delay_E (A := A) (right_k n) n).lps.lookup q.1 = some L → LoopOK Try.prog gls q.2 L :=
  lo_body (E := delay_E (right_k n) n) (by kernel_rfl : Try.f8.body = some (bodyOf Try.f8)) (lo_of (E := delay_E (right_k n) n) (by kernel_rfl : loopsOf 0 (bodyOf Try.f8) = [(0, delay_c0)]) (lo_cons rfl (delay_lo0 n) lo_nil))
theorem delay_ok (n : Nat) : FnOK Try.prog gls 8 (delay_ent (A := A) (delay_k n)) :=
  FnOK.of (delay_T (right_k n) n) (delay_fns n) follows ⟨Try.func8, by kernel_rfl⟩ (delay_lo n) (rm := [.pure]) fun args k out h => by
    obtain ⟨a0, a1, a2, e, h1⟩ := args3_sound h
    subst e; rw [delay_eq]; exact h1

end Go.Ev
end

section
/-
  FUNCTION 10: printed by a program of our own (wip/gen/st.py). 'masthead/mastheadref24.Right', in continuation form; the evaluator gives it.
-/
set_option linter.all false
set_option maxRecDepth 100000
namespace Go.Ev
open Go.Proofs
variable {A : Type}

-- ============================================================ rright (function 10)
def rright_p (n : Nat) (a0 : Int) (a1 : Int) (k : Bool → Option A) : Option A :=
  bif (decide (a0 ≥ 1)) then
    bif (decide (a0 ≤ 65536)) then
      bif (decide (a1 ≥ a0)) then
        k (decide (a1 ≤ 1048576))
      else
        k false
    else
      k false
  else
    k false

def rright_k (n : Nat) (a0 : Int) (a1 : Int) (k : Bool → Option A) : Option A := rright_p n a0 a1 k

noncomputable def rright_E (n : Nat) : Env A := ⟨tys, gls, [], [], []⟩
theorem rright_T {A : Type} (n : Nat) : TyOK Try.prog (rright_E (A := A) n) := tyOK_of rfl tysB
theorem rright_fns (n : Nat) : FnsOK Try.prog (rright_E (A := A) n) := AllOK.env rfl rfl AllOK.nil
theorem rright_eqg (n : Nat) (a0 : Int) (a1 : Int) (k : AV → List Blk → Option A) : fnK (rright_E n) Try.f10 [.pure] [.p (.int .i64) a0, .p (.int .i64) a1] [] k = rright_p n a0 a1 (fun r0 => k (.p .bool r0) []) := by kernel_rfl
theorem rright_eq (n : Nat) (a0 : Int) (a1 : Int) (k : AV → List Blk → Option A) : fnK (rright_E n) Try.f10 [.pure] [.p (.int .i64) a0, .p (.int .i64) a1] [] k = rright_k n a0 a1 (fun r0 => k (.p .bool r0) []) := rright_eqg n a0 a1 k
def rright_ent (g : Int → Int → (Bool → Option A) → Option A) : Entry A := pureE fun args k => args2 args (.int .i64) (.int .i64) fun a0 a1 => g a0 a1 (fun r0 => k (.p .bool r0) [])
theorem rright_lo (n : Nat) : ∀ c, Try.f10.body = some c → ∀ q ∈ loopsOf 0 c, ∀ L, (rright_E (A := A) n).lps.lookup q.1 = some L → LoopOK Try.prog gls q.2 L :=
  lo_body (E := rright_E n) (by kernel_rfl : Try.f10.body = some (bodyOf Try.f10)) (lo_of (E := rright_E n) (by kernel_rfl : loopsOf 0 (bodyOf Try.f10) = []) lo_nil)
theorem rright_ok (n : Nat) : FnOK Try.prog gls 10 (rright_ent (A := A) (rright_k n)) :=
  FnOK.of (rright_T n) (rright_fns n) follows ⟨Try.func10, by kernel_rfl⟩ (rright_lo n) (rm := [.pure]) fun args k out h => by
    obtain ⟨a0, a1, e, h1⟩ := args2_sound h
    subst e; rw [rright_eq]; exact h1

end Go.Ev
end

section
/-
  FUNCTION 9: printed by a program of our own (wip/gen/st.py). 'masthead/mastheadref24.Delay', in continuation form; the evaluator gives it.
-/
set_option linter.all false
set_option maxRecDepth 100000
namespace Go.Ev
open Go.Proofs
variable {A : Type}

-- ============================================================ rdelay (function 9)
def rdelay_b0 (g_rright : Int → Int → (Bool → Option A) → Option A) (n : Nat) (most : Int) (fails : Int) (k0 : Int → Option A) (k1 : Int → Option A) (r : Int → Int → Option A) (d_ : Int) (i : Int) : Option A :=
  bif (decide (i < fails)) then
    bif (decide (d_ ≥ most)) then
      k0 d_
    else
      r (IntKind.wrap .i64 (d_ + d_)) (IntKind.wrap .i64 (i + 1))
  else
    k1 d_

def rdelay_l0 (g_rright : Int → Int → (Bool → Option A) → Option A) (n : Nat) (most : Int) (fails : Int) (k0 : Int → Option A) (k1 : Int → Option A) : Nat → Int → Int → Option A
  | 0 => fun _ _ => none
  | f + 1 => rdelay_b0 g_rright n most fails k0 k1 (rdelay_l0 g_rright n most fails k0 k1 f)

def rdelay_p (g_rright : Int → Int → (Bool → Option A) → Option A) (n : Nat) (a0 : Int) (a1 : Int) (a2 : Int) (k : Int → Option A) : Option A :=
  g_rright a0 a1 fun r1 =>
  bif (!r1) then
    k 0
  else
    bif (decide (a2 < 1)) then
      k 0
    else
      rdelay_l0 g_rright n a1 a2 (fun y2 =>
        k a1) (fun y3 =>
        bif (decide (y3 > a1)) then
          k a1
        else
          k y3) n a0 1

def rdelay_k (n : Nat) (a0 : Int) (a1 : Int) (a2 : Int) (k : Int → Option A) : Option A := rdelay_p (rright_k n) n a0 a1 a2 k

noncomputable def rdelay_c0 : Code := codeAt [1, 1, 1, 0, 1, 0, 0] (bodyOf Try.f9)
def rdelay_d0 : List Nat := [0, 6, 9, 10, 11, 12, 13, 14, 15, 16, 17, 18, 19, 20, 21, 22, 23, 24, 25, 26, 27, 28, 29]
def rdelay_y0 : List Nat := [0, 2, 3, 4, 5, 8, 9, 10, 11, 12, 13, 14, 15, 16, 17, 18, 19, 20, 21, 22, 23, 24, 25, 26, 27, 28, 29, 30, 31, 32, 33, 34]
def rdelay_sh0 : Shape := ⟨[.any, (.p (.int .i64)), (.p (.int .i64)), .any, .any, .any, .any, (.p (.int .i64)), (.p (.int .i64)), .any, .any, .any, .any, .any, .any, .any, .any, .any, .any, .any, .any, .any, .any, .any, .any, .any, .any, .any, .any, .any, .any, .any, .any, .any, .any], [], 0⟩
def rdelay_x0_0 (most : Int) (fails : Int) (z2 : Int) : St := ⟨[.any, .p (.int .i64) most, .any, .any, .any, .any, .p (.int .i64) most, .p (.int .i64) z2, .any, .any, .any, .any, .any, .any, .any, .any, .any, .any, .any, .any, .any, .any, .any, .any, .any, .any, .any, .any, .any, .any, .any, .any, .any, .any, .any], [], 0⟩
def rdelay_x0_1 (most : Int) (fails : Int) (z1 : Int) : St := ⟨[.any, .p (.int .i64) most, .any, .any, .any, .any, .any, .p (.int .i64) z1, .any, .any, .any, .any, .any, .any, .any, .any, .any, .any, .any, .any, .any, .any, .any, .any, .any, .any, .any, .any, .any, .any, .any, .any, .any, .any, .any], [], 0⟩
def rdelay_g0 (g_rright : Int → Int → (Bool → Option A) → Option A) (n : Nat) (d : rdelay_sh0.den) (k : Ex → St → Option A) : Option A :=
  rdelay_l0 g_rright n d.1.2.1 d.1.2.2.1 (fun z2 => k .ret (rdelay_x0_0 d.1.2.1 d.1.2.2.1 z2)) (fun z1 => k (.exit 0) (rdelay_x0_1 d.1.2.1 d.1.2.2.1 z1)) n d.1.2.2.2.2.2.2.2.1 d.1.2.2.2.2.2.2.2.2.1
noncomputable def rdelay_E (g_rright : Int → Int → (Bool → Option A) → Option A) (n : Nat) : Env A := ⟨tys, gls, [(10, rright_ent g_rright)], [(0, loopE rdelay_d0 rdelay_sh0 (rdelay_g0 g_rright n))], []⟩
theorem rdelay_T (g_rright : Int → Int → (Bool → Option A) → Option A) (n : Nat) : TyOK Try.prog (rdelay_E g_rright n) := tyOK_of rfl tysB
theorem rdelay_fns (n : Nat) : FnsOK Try.prog (rdelay_E (A := A) (rright_k n) n) := AllOK.env rfl rfl (AllOK.cons (rright_ok n) AllOK.nil)
noncomputable def rdelay_LK0 (g_rright : Int → Int → (Bool → Option A) → Option A) (n : Nat) (most : Int) (fails : Int) (k : Ex → St → Option A) (f : Nat) (d_ : Int) (i : Int) : Option A := loopK (codeK (rdelay_E g_rright n) 1 rdelay_c0) rdelay_d0 rdelay_y0 f (⟨[.any, .p (.int .i64) most, .p (.int .i64) fails, .any, .any, .any, .any, .p (.int .i64) d_, .p (.int .i64) i, .any, .any, .any, .any, .any, .any, .any, .any, .any, .any, .any, .any, .any, .any, .any, .any, .any, .any, .any, .any, .any, .any, .any, .any, .any, .any], [], 0⟩) k
theorem rdelay_st0 (g_rright : Int → Int → (Bool → Option A) → Option A) (n f : Nat) (most : Int) (fails : Int) (k : Ex → St → Option A) (d_ : Int) (i : Int) : rdelay_LK0 g_rright n most fails k (f + 1) d_ i = rdelay_b0 g_rright n most fails (fun z2 => k .ret (rdelay_x0_0 most fails z2)) (fun z1 => k (.exit 0) (rdelay_x0_1 most fails z1)) (rdelay_LK0 g_rright n most fails k f) d_ i := by kernel_rfl
theorem rdelay_le0 (g_rright : Int → Int → (Bool → Option A) → Option A) (n : Nat) (most : Int) (fails : Int) (k : Ex → St → Option A) : ∀ (f : Nat) (d_ : Int) (i : Int), rdelay_LK0 g_rright n most fails k f d_ i = rdelay_l0 g_rright n most fails (fun z2 => k .ret (rdelay_x0_0 most fails z2)) (fun z1 => k (.exit 0) (rdelay_x0_1 most fails z1)) f d_ i := by
  intro f
  induction f with
  | zero => intros; kernel_rfl
  | succ f ih => intro d_ i; exact (rdelay_st0 g_rright n f most fails k d_ i).trans ((congrArg (fun r => rdelay_b0 g_rright n most fails (fun z2 => k .ret (rdelay_x0_0 most fails z2)) (fun z1 => k (.exit 0) (rdelay_x0_1 most fails z1)) r d_ i) (funext fun d_ => funext fun i => ih d_ i)).trans (by kernel_rfl))
theorem rdelay_lo0 (n : Nat) : LoopOK Try.prog gls rdelay_c0 (loopE rdelay_d0 rdelay_sh0 (rdelay_g0 (A := A) (rright_k n) n)) :=
  LoopOK.of (rdelay_T (rright_k n) n) (rdelay_fns n) follows (j := 1) (n := n) (xdead := rdelay_y0) (lo_of (by kernel_rfl : loopsOf 1 rdelay_c0 = []) lo_nil) fun d k => Eq.trans (by kernel_rfl) (rdelay_le0 (rright_k n) n d.1.2.1 d.1.2.2.1 k n d.1.2.2.2.2.2.2.2.1 d.1.2.2.2.2.2.2.2.2.1)
theorem rdelay_eqg (g_rright : Int → Int → (Bool → Option A) → Option A) (n : Nat) (a0 : Int) (a1 : Int) (a2 : Int) (k : AV → List Blk → Option A) : fnK (rdelay_E g_rright n) Try.f9 [.pure] [.p (.int .i64) a0, .p (.int .i64) a1, .p (.int .i64) a2] [] k = rdelay_p g_rright n a0 a1 a2 (fun r0 => k (.p (.int .i64) r0) []) := by kernel_rfl
theorem rdelay_eq (n : Nat) (a0 : Int) (a1 : Int) (a2 : Int) (k : AV → List Blk → Option A) : fnK (rdelay_E (rright_k n) n) Try.f9 [.pure] [.p (.int .i64) a0, .p (.int .i64) a1, .p (.int .i64) a2] [] k = rdelay_k n a0 a1 a2 (fun r0 => k (.p (.int .i64) r0) []) := rdelay_eqg (rright_k n) n a0 a1 a2 k
def rdelay_ent (g : Int → Int → Int → (Int → Option A) → Option A) : Entry A := pureE fun args k => args3 args (.int .i64) (.int .i64) (.int .i64) fun a0 a1 a2 => g a0 a1 a2 (fun r0 => k (.p (.int .i64) r0) [])
theorem rdelay_lo (n : Nat) : ∀ c, Try.f9.body = some c → ∀ q ∈ loopsOf 0 c, ∀ L, (rdelay_E (A := A) (rright_k n) n).lps.lookup q.1 = some L → LoopOK Try.prog gls q.2 L :=
  lo_body (E := rdelay_E (rright_k n) n) (by kernel_rfl : Try.f9.body = some (bodyOf Try.f9)) (lo_of (E := rdelay_E (rright_k n) n) (by kernel_rfl : loopsOf 0 (bodyOf Try.f9) = [(0, rdelay_c0)]) (lo_cons rfl (rdelay_lo0 n) lo_nil))
theorem rdelay_ok (n : Nat) : FnOK Try.prog gls 9 (rdelay_ent (A := A) (rdelay_k n)) :=
  FnOK.of (rdelay_T (rright_k n) n) (rdelay_fns n) follows ⟨Try.func9, by kernel_rfl⟩ (rdelay_lo n) (rm := [.pure]) fun args k out h => by
    obtain ⟨a0, a1, a2, e, h1⟩ := args3_sound h
    subst e; rw [rdelay_eq]; exact h1

end Go.Ev
end

section
/-
  PEER: plain laws of what the reference and the program compute: delays.
-/
set_option linter.all false
namespace Go.Ev
variable {A : Type}

def Rt (b m : Int) : Prop := 1 ≤ b ∧ b ≤ 65536 ∧ b ≤ m ∧ m ≤ 1048576
instance (b m : Int) : Decidable (Rt b m) := inferInstanceAs (Decidable (_ ∧ _ ∧ _ ∧ _))

theorem right_law (n : Nat) (b m : Int) (g : Bool → Option A) : right_k n b m g = g (decide (Rt b m)) := by
  unfold right_k right_p
  by_cases hR : Rt b m
  · rw [decide_eq_true hR]
    obtain ⟨h1, h2, h3, h4⟩ := hR
    rw [decide_eq_true (show b ≥ 1 from h1), cond_true, decide_eq_true h2, cond_true, decide_eq_true (show m ≥ b from h3), cond_true, decide_eq_true h4]
  · rw [decide_eq_false hR]
    by_cases h1 : b ≥ 1
    · rw [decide_eq_true h1, cond_true]
      by_cases h2 : b ≤ 65536
      · rw [decide_eq_true h2, cond_true]
        by_cases h3 : m ≥ b
        · rw [decide_eq_true h3, cond_true, decide_eq_false fun h4 => hR ⟨h1, h2, h3, h4⟩]
        · rw [decide_eq_false h3, cond_false]
      · rw [decide_eq_false h2, cond_false]
    · rw [decide_eq_false h1, cond_false]
theorem rright_law (n : Nat) (b m : Int) (g : Bool → Option A) : rright_k n b m g = g (decide (Rt b m)) := right_law n b m g

/-- Doubled till it isn't below m any more. -/
def dbl (m : Int) : Nat → Int → Int
  | 0, d => d
  | k + 1, d => if d < m then dbl m k (d + d) else d
theorem dbl_ge (m : Int) : ∀ (k : Nat) (d : Int), ¬ d < m → dbl m k d = d
  | 0, _, _ => rfl
  | k + 1, d, h => by rw [dbl, if_neg h]
theorem dbl_le (m : Int) : ∀ (k : Nat) (d : Int), 0 ≤ d → d ≤ dbl m k d
  | 0, d, _ => Int.le_refl d
  | k + 1, d, h => by
    rw [dbl]
    split
    · have := dbl_le m k (d + d) (by omega); omega
    · exact Int.le_refl d
theorem dbl_mono (m : Int) : ∀ (k : Nat) (d : Int), 0 ≤ d → dbl m k d ≤ dbl m (k + 1) d
  | 0, d, h => by rw [dbl, dbl]; split; rw [dbl]; omega; exact Int.le_refl d
  | k + 1, d, h => by
    rw [dbl, dbl]
    split
    · exact dbl_mono m k (d + d) (by omega)
    · exact Int.le_refl d
theorem dbl_sat (m : Int) : ∀ (j k : Nat) (d : Int), m ≤ d * 2 ^ j → j ≤ k → dbl m k d = dbl m j d
  | 0, k, d, h, _ => by rw [dbl_ge m k d (by simpa using h)]; rfl
  | j + 1, k, d, h, hk => by
    obtain ⟨k, rfl⟩ : ∃ q, k = q + 1 := ⟨k - 1, by omega⟩
    rw [dbl, dbl]
    split
    · refine dbl_sat m j k (d + d) ?_ (by omega)
      have e : (d + d) * 2 ^ j = d * 2 ^ (j + 1) := by
        rw [show (2 : Int) ^ (j + 1) = 2 ^ j * 2 from Int.pow_succ 2 j, ← Int.two_mul, Int.mul_comm (2 ^ j) 2, ← Int.mul_assoc, Int.mul_comm d 2]
      rw [e]; exact h
    · rfl

/-- The delay of f fails. -/
def DD (b m f : Int) : Int := if f < 1 then 0 else imin (dbl m (f - 1).toNat b) m

theorem pow_dbl (d : Int) (j : Nat) : (d + d) * 2 ^ j = d * 2 ^ (j + 1) := by
  rw [show (2 : Int) ^ (j + 1) = 2 ^ j * 2 from Int.pow_succ 2 j, ← Int.two_mul, Int.mul_comm (2 ^ j) 2, ← Int.mul_assoc, Int.mul_comm d 2]

theorem shl_one {d : Int} (h1 : 0 ≤ d) (h2 : d < 1000000000) : shl .i64 d 1 = d + d := by
  unfold shl
  rw [show (2 : Int) ^ (min (Int.toNat 1) IntKind.i64.bits) = 2 from rfl, wrap_id (by omega) (by omega)]; omega

theorem delay_l0_law (G : Int → Int → (Bool → Option A) → Option A) (n : Nat) (m fails : Int) (hm : m ≤ 1048576) (hf : fails ≤ 9223372036854775807) (k0 : Int → Option A) : ∀ (j f : Nat) (d i : Int), 1 ≤ d → d ≤ 2097152 → m ≤ d * 2 ^ j → j < f → 1 ≤ i →
    delay_l0 G n m fails k0 f d i = k0 (dbl m (fails - i).toNat d) := by
  intro j
  induction j with
  | zero =>
    intro f d i h1 h2 h3 h4 h5
    obtain ⟨f, rfl⟩ : ∃ g, f = g + 1 := ⟨f - 1, by omega⟩
    have hd : ¬ d < m := by simp at h3; omega
    rw [delay_l0, delay_b0, dbl_ge m _ d hd, decide_eq_false hd, cond_false]
    cases decide (i < fails) <;> rfl
  | succ j ih =>
    intro f d i h1 h2 h3 h4 h5
    obtain ⟨f, rfl⟩ : ∃ g, f = g + 1 := ⟨f - 1, by omega⟩
    rw [delay_l0, delay_b0]
    by_cases hi : i < fails
    · rw [decide_eq_true hi, cond_true]
      by_cases hd : d < m
      · rw [decide_eq_true hd, cond_true, shl_one (by omega) (by omega), wrap_id (by omega) (by omega)]
        rw [ih f (d + d) (i + 1) (by omega) (by omega) (by rw [pow_dbl]; exact h3) (by omega) (by omega)]
        obtain ⟨q, hq⟩ : ∃ q, (fails - i).toNat = q + 1 := ⟨(fails - i).toNat - 1, by omega⟩
        rw [hq, dbl, if_pos hd]
        congr 2; omega
      · rw [decide_eq_false hd, cond_false, dbl_ge m _ d hd]
    · rw [decide_eq_false hi, cond_false, show (fails - i).toNat = 0 from by omega]; rfl

theorem p20 (b m : Int) (h : Rt b m) : m ≤ b * 2 ^ 20 := by
  obtain ⟨h1, h2, h3, h4⟩ := h
  rw [show (2 : Int) ^ 20 = 1048576 from rfl]; omega

theorem delay_law (n : Nat) (hn : 30 < n) (b m f : Int) (h : Rt b m) (hf : f ≤ 9223372036854775807) (g : Int → Option A) : delay_k n b m f g = g (DD b m f) := by
  unfold delay_k delay_p
  rw [right_law, decide_eq_true h, Bool.not_true, cond_false]
  unfold DD
  by_cases h1 : f < 1
  · rw [decide_eq_true h1, cond_true, if_pos h1]
  · rw [decide_eq_false h1, cond_false, if_neg h1]
    have hb := h
    obtain ⟨a1, a2, a3, a4⟩ := h
    rw [delay_l0_law _ n m f a4 hf _ 20 n b 1 a1 (by omega) (p20 b m hb) (by omega) (by omega)]
theorem delay_off (n : Nat) (b m f : Int) (h : ¬ Rt b m) (g : Int → Option A) : delay_k n b m f g = g 0 := by
  unfold delay_k delay_p
  rw [right_law, decide_eq_false h]; rfl

theorem rdelay_l0_law (G : Int → Int → (Bool → Option A) → Option A) (n : Nat) (m fails : Int) (hm : m ≤ 1048576) (hf : fails ≤ 9223372036854775807) (g : Int → Option A) : ∀ (j f : Nat) (d i : Int), 1 ≤ d → d ≤ 2097152 → m ≤ d * 2 ^ j → j < f → 1 ≤ i →
    rdelay_l0 G n m fails (fun y2 => g m) (fun y3 => bif (decide (y3 > m)) then g m else g y3) f d i = g (imin (dbl m (fails - i).toNat d) m) := by
  intro j
  induction j with
  | zero =>
    intro f d i h1 h2 h3 h4 h5
    obtain ⟨f, rfl⟩ : ∃ g, f = g + 1 := ⟨f - 1, by omega⟩
    have hd : ¬ d < m := by simp at h3; omega
    rw [rdelay_l0, rdelay_b0, dbl_ge m _ d hd, decide_eq_true (show d ≥ m by omega), cond_true]
    unfold imin
    by_cases hi : i < fails
    · rw [decide_eq_true hi, cond_true]
      congr 1; split <;> omega
    · rw [decide_eq_false hi, cond_false]
      by_cases hdm : d > m
      · rw [decide_eq_true hdm, cond_true, if_pos hdm]
      · rw [decide_eq_false hdm, cond_false, if_neg hdm]
  | succ j ih =>
    intro f d i h1 h2 h3 h4 h5
    obtain ⟨f, rfl⟩ : ∃ g, f = g + 1 := ⟨f - 1, by omega⟩
    rw [rdelay_l0, rdelay_b0]
    by_cases hi : i < fails
    · rw [decide_eq_true hi, cond_true]
      by_cases hd : d < m
      · rw [decide_eq_false (by omega), cond_false, wrap_id (by omega) (by omega), wrap_id (by omega) (by omega)]
        rw [ih f (d + d) (i + 1) (by omega) (by omega) (by rw [pow_dbl]; exact h3) (by omega) (by omega)]
        obtain ⟨q, hq⟩ : ∃ q, (fails - i).toNat = q + 1 := ⟨(fails - i).toNat - 1, by omega⟩
        rw [hq, dbl, if_pos hd]
        congr 3; omega
      · rw [decide_eq_true (by omega), cond_true, dbl_ge m _ d hd]
        unfold imin
        congr 1; split <;> omega
    · rw [decide_eq_false hi, cond_false, show (fails - i).toNat = 0 from by omega, dbl]
      unfold imin
      by_cases hdm : d > m
      · rw [decide_eq_true hdm, cond_true, if_pos hdm]
      · rw [decide_eq_false hdm, cond_false, if_neg hdm]

theorem rdelay_law (n : Nat) (hn : 30 < n) (b m f : Int) (h : Rt b m) (hf : f ≤ 9223372036854775807) (g : Int → Option A) : rdelay_k n b m f g = g (DD b m f) := by
  unfold rdelay_k rdelay_p
  rw [rright_law, decide_eq_true h, Bool.not_true, cond_false]
  unfold DD
  by_cases h1 : f < 1
  · rw [decide_eq_true h1, cond_true, if_pos h1]
  · rw [decide_eq_false h1, cond_false, if_neg h1]
    have hb := h
    obtain ⟨a1, a2, a3, a4⟩ := h
    exact rdelay_l0_law _ n m f a4 hf g 20 n b 1 a1 (by omega) (p20 b m hb) (by omega) (by omega)
theorem rdelay_off (n : Nat) (b m f : Int) (h : ¬ Rt b m) (g : Int → Option A) : rdelay_k n b m f g = g 0 := by
  unfold rdelay_k rdelay_p
  rw [rright_law, decide_eq_false h]; rfl

theorem DD_sat (b m f : Int) (h : Rt b m) : DD b m (imin f 64) = DD b m f := by
  have e : imin f 64 = if 64 < f then 64 else f := rfl
  rw [e]
  by_cases h1 : 64 < f
  · rw [if_pos h1]
    unfold DD
    rw [if_neg (by omega), if_neg (show ¬ f < 1 by omega)]
    rw [dbl_sat m 20 (f - 1).toNat b (p20 b m h) (by omega), dbl_sat m 20 ((64 : Int) - 1).toNat b (p20 b m h) (by decide)]
  · rw [if_neg h1]
theorem DD_ge (b m f : Int) (h : Rt b m) (hf : 1 ≤ f) : b ≤ DD b m f ∧ DD b m f ≤ m ∧ DD b m f ≤ DD b m (f + 1) := by
  obtain ⟨a1, a2, a3, a4⟩ := h
  unfold DD
  rw [if_neg (by omega), if_neg (by omega), show (f + 1 - 1).toNat = (f - 1).toNat + 1 from by omega]
  have h1 := dbl_le m (f - 1).toNat b (by omega)
  have h2 := dbl_mono m (f - 1).toNat b (by omega)
  unfold imin
  refine ⟨?_, ?_, ?_⟩
  · split <;> omega
  · split <;> omega
  · split <;> split <;> omega

theorem wf_i64 {x : Int} (h : WF (.int .i64) x) : -9223372036854775808 ≤ x ∧ x ≤ 9223372036854775807 := by
  have h1 : IntKind.i64.min ≤ x ∧ x ≤ IntKind.i64.max := h
  rwa [show IntKind.i64.min = -9223372036854775808 by decide, show IntKind.i64.max = 9223372036854775807 by decide] at h1

end Go.Ev
end

section
/-
  FUNCTION 15: printed by a program of our own (wip/gen/st.py). '(masthead/mastheadlaw24.Op).key', in continuation form; the evaluator gives it.
-/
set_option linter.all false
set_option maxRecDepth 100000
namespace Go.Ev
open Go.Proofs
variable {A : Type}

-- ============================================================ key (function 15)
def key_p (n : Nat) (a0 : (Int × (Int × (Int × (Int × (Int × Unit)))))) (k : (Int × ((List Int) × (Int × Unit))) → Option A) : Option A :=
  k ((iand .i64 a0.2.1 7), (((List.replicate 32 (0 : Int)).set 0 (IntKind.wrap .u8 a0.2.2.1)), ((iand .i64 a0.2.2.1 1), ())))

def key_k (n : Nat) (a0 : (Int × (Int × (Int × (Int × (Int × Unit)))))) (k : (Int × ((List Int) × (Int × Unit))) → Option A) : Option A := key_p n a0 k

noncomputable def key_E (n : Nat) : Env A := ⟨tys, gls, [], [], []⟩
theorem key_T {A : Type} (n : Nat) : TyOK Try.prog (key_E (A := A) n) := tyOK_of rfl tysB
theorem key_fns (n : Nat) : FnsOK Try.prog (key_E (A := A) n) := AllOK.env rfl rfl AllOK.nil
theorem key_eqg (n : Nat) (a0 : (Int × (Int × (Int × (Int × (Int × Unit)))))) (k : AV → List Blk → Option A) : fnK (key_E n) Try.f15 [.pure] [.p kT32 a0] [] k = key_p n a0 (fun r0 => k (.p kT38 r0) []) := by kernel_rfl
theorem key_eq (n : Nat) (a0 : (Int × (Int × (Int × (Int × (Int × Unit)))))) (k : AV → List Blk → Option A) : fnK (key_E n) Try.f15 [.pure] [.p kT32 a0] [] k = key_k n a0 (fun r0 => k (.p kT38 r0) []) := key_eqg n a0 k
def key_ent (g : (Int × (Int × (Int × (Int × (Int × Unit))))) → ((Int × ((List Int) × (Int × Unit))) → Option A) → Option A) : Entry A := pureE fun args k => args1 args kT32 fun a0 => g a0 (fun r0 => k (.p kT38 r0) [])
theorem key_lo (n : Nat) : ∀ c, Try.f15.body = some c → ∀ q ∈ loopsOf 0 c, ∀ L, (key_E (A := A) n).lps.lookup q.1 = some L → LoopOK Try.prog gls q.2 L :=
  lo_body (E := key_E n) (by kernel_rfl : Try.f15.body = some (bodyOf Try.f15)) (lo_of (E := key_E n) (by kernel_rfl : loopsOf 0 (bodyOf Try.f15) = []) lo_nil)
theorem key_ok (n : Nat) : FnOK Try.prog gls 15 (key_ent (A := A) (key_k n)) :=
  FnOK.of (key_T n) (key_fns n) follows ⟨Try.func15, by kernel_rfl⟩ (key_lo n) (rm := [.pure]) fun args k out h => by
    obtain ⟨a0, e, h1⟩ := args1_sound h
    subst e; rw [key_eq]; exact h1

end Go.Ev
end

section
/-
  FUNCTION 30: printed by a program of our own (wip/gen/st.py). 'masthead/mastheadlaw24.ref', in continuation form; the evaluator gives it.
-/
set_option linter.all false
set_option maxRecDepth 100000
namespace Go.Ev
open Go.Proofs
variable {A : Type}

-- ============================================================ ref (function 30)
def ref_p (n : Nat) (a0 : (Int × ((List Int) × (Int × Unit)))) (k : (Int × ((List Int) × (Int × Unit))) → Option A) : Option A :=
  k (a0.1, (a0.2.1, (a0.2.2.1, ())))

def ref_k (n : Nat) (a0 : (Int × ((List Int) × (Int × Unit)))) (k : (Int × ((List Int) × (Int × Unit))) → Option A) : Option A := ref_p n a0 k

noncomputable def ref_E (n : Nat) : Env A := ⟨tys, gls, [], [], []⟩
theorem ref_T {A : Type} (n : Nat) : TyOK Try.prog (ref_E (A := A) n) := tyOK_of rfl tysB
theorem ref_fns (n : Nat) : FnsOK Try.prog (ref_E (A := A) n) := AllOK.env rfl rfl AllOK.nil
theorem ref_eqg (n : Nat) (a0 : (Int × ((List Int) × (Int × Unit)))) (k : AV → List Blk → Option A) : fnK (ref_E n) Try.f30 [.pure] [.p kT38 a0] [] k = ref_p n a0 (fun r0 => k (.p kT38 r0) []) := by kernel_rfl
theorem ref_eq (n : Nat) (a0 : (Int × ((List Int) × (Int × Unit)))) (k : AV → List Blk → Option A) : fnK (ref_E n) Try.f30 [.pure] [.p kT38 a0] [] k = ref_k n a0 (fun r0 => k (.p kT38 r0) []) := ref_eqg n a0 k
def ref_ent (g : (Int × ((List Int) × (Int × Unit))) → ((Int × ((List Int) × (Int × Unit))) → Option A) → Option A) : Entry A := pureE fun args k => args1 args kT38 fun a0 => g a0 (fun r0 => k (.p kT38 r0) [])
theorem ref_lo (n : Nat) : ∀ c, Try.f30.body = some c → ∀ q ∈ loopsOf 0 c, ∀ L, (ref_E (A := A) n).lps.lookup q.1 = some L → LoopOK Try.prog gls q.2 L :=
  lo_body (E := ref_E n) (by kernel_rfl : Try.f30.body = some (bodyOf Try.f30)) (lo_of (E := ref_E n) (by kernel_rfl : loopsOf 0 (bodyOf Try.f30) = []) lo_nil)
theorem ref_ok (n : Nat) : FnOK Try.prog gls 30 (ref_ent (A := A) (ref_k n)) :=
  FnOK.of (ref_T n) (ref_fns n) follows ⟨Try.func30, by kernel_rfl⟩ (ref_lo n) (rm := [.pure]) fun args k out h => by
    obtain ⟨a0, e, h1⟩ := args1_sound h
    subst e; rw [ref_eq]; exact h1

end Go.Ev
end

section
/-
  FUNCTION 38: printed by a program of our own (wip/gen/st.py). 'masthead/mastheadref24.Ready', in continuation form; the evaluator gives it.
-/
set_option linter.all false
set_option maxRecDepth 100000
namespace Go.Ev
open Go.Proofs
variable {A : Type}

-- ============================================================ rready (function 38)
def rready_p (n : Nat) (a0 : (Int × (Int × (Bool × ((Int × ((List Int) × (Int × Unit))) × (Int × ((List (Int × ((List Int) × (Int × Unit)))) × (Int × (Int × (Int × (Bool × Unit))))))))))) (a1 : Int) (k : Bool → Option A) : Option A :=
  bif (!a0.2.2.2.2.2.2.2.2.2.1) then
    bif (!a0.2.2.1) then
      k (decide (a1 ≥ a0.2.2.2.2.2.2.2.1))
    else
      k false
  else
    k false

def rready_k (n : Nat) (a0 : (Int × (Int × (Bool × ((Int × ((List Int) × (Int × Unit))) × (Int × ((List (Int × ((List Int) × (Int × Unit)))) × (Int × (Int × (Int × (Bool × Unit))))))))))) (a1 : Int) (k : Bool → Option A) : Option A := rready_p n a0 a1 k

noncomputable def rready_E (n : Nat) : Env A := ⟨tys, gls, [], [], []⟩
theorem rready_T {A : Type} (n : Nat) : TyOK Try.prog (rready_E (A := A) n) := tyOK_of rfl tysB
theorem rready_fns (n : Nat) : FnsOK Try.prog (rready_E (A := A) n) := AllOK.env rfl rfl AllOK.nil
theorem rready_eqg (n : Nat) (a0 : (Int × (Int × (Bool × ((Int × ((List Int) × (Int × Unit))) × (Int × ((List (Int × ((List Int) × (Int × Unit)))) × (Int × (Int × (Int × (Bool × Unit))))))))))) (a1 : Int) (k : AV → List Blk → Option A) : fnK (rready_E n) Try.f38 [.pure] [.p kT53 a0, .p (.int .i64) a1] [] k = rready_p n a0 a1 (fun r0 => k (.p .bool r0) []) := by kernel_rfl
theorem rready_eq (n : Nat) (a0 : (Int × (Int × (Bool × ((Int × ((List Int) × (Int × Unit))) × (Int × ((List (Int × ((List Int) × (Int × Unit)))) × (Int × (Int × (Int × (Bool × Unit))))))))))) (a1 : Int) (k : AV → List Blk → Option A) : fnK (rready_E n) Try.f38 [.pure] [.p kT53 a0, .p (.int .i64) a1] [] k = rready_k n a0 a1 (fun r0 => k (.p .bool r0) []) := rready_eqg n a0 a1 k
def rready_ent (g : (Int × (Int × (Bool × ((Int × ((List Int) × (Int × Unit))) × (Int × ((List (Int × ((List Int) × (Int × Unit)))) × (Int × (Int × (Int × (Bool × Unit)))))))))) → Int → (Bool → Option A) → Option A) : Entry A := pureE fun args k => args2 args kT53 (.int .i64) fun a0 a1 => g a0 a1 (fun r0 => k (.p .bool r0) [])
theorem rready_lo (n : Nat) : ∀ c, Try.f38.body = some c → ∀ q ∈ loopsOf 0 c, ∀ L, (rready_E (A := A) n).lps.lookup q.1 = some L → LoopOK Try.prog gls q.2 L :=
  lo_body (E := rready_E n) (by kernel_rfl : Try.f38.body = some (bodyOf Try.f38)) (lo_of (E := rready_E n) (by kernel_rfl : loopsOf 0 (bodyOf Try.f38) = []) lo_nil)
theorem rready_ok (n : Nat) : FnOK Try.prog gls 38 (rready_ent (A := A) (rready_k n)) :=
  FnOK.of (rready_T n) (rready_fns n) follows ⟨Try.func38, by kernel_rfl⟩ (rready_lo n) (rm := [.pure]) fun args k out h => by
    obtain ⟨a0, a1, e, h1⟩ := args2_sound h
    subst e; rw [rready_eq]; exact h1

end Go.Ev
end

section
/-
  FUNCTION 29: printed by a program of our own (wip/gen/st.py). 'masthead/mastheadref24.Ask', in continuation form; the evaluator gives it.
-/
set_option linter.all false
set_option maxRecDepth 100000
namespace Go.Ev
open Go.Proofs
variable {A : Type}

-- ============================================================ rask (function 29)
def rask_p (g_rready : (Int × (Int × (Bool × ((Int × ((List Int) × (Int × Unit))) × (Int × ((List (Int × ((List Int) × (Int × Unit)))) × (Int × (Int × (Int × (Bool × Unit)))))))))) → Int → (Bool → Option A) → Option A) (n : Nat) (a0 : (Int × (Int × (Bool × ((Int × ((List Int) × (Int × Unit))) × (Int × ((List (Int × ((List Int) × (Int × Unit)))) × (Int × (Int × (Int × (Bool × Unit))))))))))) (a1 : (Int × ((List Int) × (Int × Unit)))) (a2 : Int) (k : (Int × (Int × (Bool × ((Int × ((List Int) × (Int × Unit))) × (Int × ((List (Int × ((List Int) × (Int × Unit)))) × (Int × (Int × (Int × (Bool × Unit)))))))))) → Int → Option A) : Option A :=
  bif (decide (a2 < 0)) then
    k a0 5
  else
    bif (decide (a2 > 1099511627776)) then
      k a0 5
    else
      g_rready a0 a2 fun r1 =>
      bif (!r1) then
        k a0 16
      else
        k (a0.1, (a0.2.1, (true, (a1, ((IntKind.wrap .i64 (a2 + a0.1)), a0.2.2.2.2.2))))) 0

def rask_k (n : Nat) (a0 : (Int × (Int × (Bool × ((Int × ((List Int) × (Int × Unit))) × (Int × ((List (Int × ((List Int) × (Int × Unit)))) × (Int × (Int × (Int × (Bool × Unit))))))))))) (a1 : (Int × ((List Int) × (Int × Unit)))) (a2 : Int) (k : (Int × (Int × (Bool × ((Int × ((List Int) × (Int × Unit))) × (Int × ((List (Int × ((List Int) × (Int × Unit)))) × (Int × (Int × (Int × (Bool × Unit)))))))))) → Int → Option A) : Option A := rask_p (rready_k n) n a0 a1 a2 k

noncomputable def rask_E (g_rready : (Int × (Int × (Bool × ((Int × ((List Int) × (Int × Unit))) × (Int × ((List (Int × ((List Int) × (Int × Unit)))) × (Int × (Int × (Int × (Bool × Unit)))))))))) → Int → (Bool → Option A) → Option A) (n : Nat) : Env A := ⟨tys, gls, [(38, rready_ent g_rready)], [], []⟩
theorem rask_T (g_rready : (Int × (Int × (Bool × ((Int × ((List Int) × (Int × Unit))) × (Int × ((List (Int × ((List Int) × (Int × Unit)))) × (Int × (Int × (Int × (Bool × Unit)))))))))) → Int → (Bool → Option A) → Option A) (n : Nat) : TyOK Try.prog (rask_E g_rready n) := tyOK_of rfl tysB
theorem rask_fns (n : Nat) : FnsOK Try.prog (rask_E (A := A) (rready_k n) n) := AllOK.env rfl rfl (AllOK.cons (rready_ok n) AllOK.nil)
theorem rask_eqg (g_rready : (Int × (Int × (Bool × ((Int × ((List Int) × (Int × Unit))) × (Int × ((List (Int × ((List Int) × (Int × Unit)))) × (Int × (Int × (Int × (Bool × Unit)))))))))) → Int → (Bool → Option A) → Option A) (n : Nat) (a0 : (Int × (Int × (Bool × ((Int × ((List Int) × (Int × Unit))) × (Int × ((List (Int × ((List Int) × (Int × Unit)))) × (Int × (Int × (Int × (Bool × Unit))))))))))) (a1 : (Int × ((List Int) × (Int × Unit)))) (a2 : Int) (k : AV → List Blk → Option A) : fnK (rask_E g_rready n) Try.f29 [.pure, .pure] [.p kT53 a0, .p kT38 a1, .p (.int .i64) a2] [] k = rask_p g_rready n a0 a1 a2 (fun r0 r1 => k (.tup [.p kT53 r0, .p (.int .i64) r1]) []) := by kernel_rfl
theorem rask_eq (n : Nat) (a0 : (Int × (Int × (Bool × ((Int × ((List Int) × (Int × Unit))) × (Int × ((List (Int × ((List Int) × (Int × Unit)))) × (Int × (Int × (Int × (Bool × Unit))))))))))) (a1 : (Int × ((List Int) × (Int × Unit)))) (a2 : Int) (k : AV → List Blk → Option A) : fnK (rask_E (rready_k n) n) Try.f29 [.pure, .pure] [.p kT53 a0, .p kT38 a1, .p (.int .i64) a2] [] k = rask_k n a0 a1 a2 (fun r0 r1 => k (.tup [.p kT53 r0, .p (.int .i64) r1]) []) := rask_eqg (rready_k n) n a0 a1 a2 k
def rask_ent (g : (Int × (Int × (Bool × ((Int × ((List Int) × (Int × Unit))) × (Int × ((List (Int × ((List Int) × (Int × Unit)))) × (Int × (Int × (Int × (Bool × Unit)))))))))) → (Int × ((List Int) × (Int × Unit))) → Int → ((Int × (Int × (Bool × ((Int × ((List Int) × (Int × Unit))) × (Int × ((List (Int × ((List Int) × (Int × Unit)))) × (Int × (Int × (Int × (Bool × Unit)))))))))) → Int → Option A) → Option A) : Entry A := pureE fun args k => args3 args kT53 kT38 (.int .i64) fun a0 a1 a2 => g a0 a1 a2 (fun r0 r1 => k (.tup [.p kT53 r0, .p (.int .i64) r1]) [])
theorem rask_lo (n : Nat) : ∀ c, Try.f29.body = some c → ∀ q ∈ loopsOf 0 c, ∀ L, (rask_E (A := A) (rready_k n) n).lps.lookup q.1 = some L → LoopOK Try.prog gls q.2 L :=
  lo_body (E := rask_E (rready_k n) n) (by kernel_rfl : Try.f29.body = some (bodyOf Try.f29)) (lo_of (E := rask_E (rready_k n) n) (by kernel_rfl : loopsOf 0 (bodyOf Try.f29) = []) lo_nil)
theorem rask_ok (n : Nat) : FnOK Try.prog gls 29 (rask_ent (A := A) (rask_k n)) :=
  FnOK.of (rask_T (rready_k n) n) (rask_fns n) follows ⟨Try.func29, by kernel_rfl⟩ (rask_lo n) (rm := [.pure, .pure]) fun args k out h => by
    obtain ⟨a0, a1, a2, e, h1⟩ := args3_sound h
    subst e; rw [rask_eq]; exact h1

end Go.Ev
end

section
/-
  FUNCTION 22: printed by a program of our own (wip/gen/st.py). '(*masthead/peer.Peer).Ready', in continuation form; the evaluator gives it.
-/
set_option linter.all false
set_option maxRecDepth 100000
namespace Go.Ev
open Go.Proofs
variable {A : Type}

-- ============================================================ ready (function 22)
def ready_p (n : Nat) (now : Int) (pa : Int) (pba : Int) (pbba : (Int × ((List Int) × (Int × Unit)))) (pbbba : Int) (pbbbba : Bool) (pbbbbbb : (Int × (Int × (Int × (Bool × Unit))))) (pbbbbba : (List ((Int × ((List Int) × (Int × Unit))) × Int))) (k : Bool → Int → Int → (Int × ((List Int) × (Int × Unit))) → Int → Bool → (Int × (Int × (Int × (Bool × Unit)))) → (List ((Int × ((List Int) × (Int × Unit))) × Int)) → Option A) : Option A :=
  bif (!pbbbbbb.2.2.2.1) then
    bif (!pbbbba) then
      k (decide (now ≥ pbbbbbb.2.1)) pa pba pbba pbbba pbbbba pbbbbbb pbbbbba
    else
      k false pa pba pbba pbbba pbbbba pbbbbbb pbbbbba
  else
    k false pa pba pbba pbbba pbbbba pbbbbbb pbbbbba

def ready_k (n : Nat) (now : Int) (pa : Int) (pba : Int) (pbba : (Int × ((List Int) × (Int × Unit)))) (pbbba : Int) (pbbbba : Bool) (pbbbbbb : (Int × (Int × (Int × (Bool × Unit))))) (pbbbbba : (List ((Int × ((List Int) × (Int × Unit))) × Int))) (k : Bool → Int → Int → (Int × ((List Int) × (Int × Unit))) → Int → Bool → (Int × (Int × (Int × (Bool × Unit)))) → (List ((Int × ((List Int) × (Int × Unit))) × Int)) → Option A) : Option A := ready_p n now pa pba pbba pbbba pbbbba pbbbbbb pbbbbba k

noncomputable def ready_E (n : Nat) : Env A := ⟨tys, gls, [], [], []⟩
theorem ready_T {A : Type} (n : Nat) : TyOK Try.prog (ready_E (A := A) n) := tyOK_of rfl tysB
theorem ready_fns (n : Nat) : FnsOK Try.prog (ready_E (A := A) n) := AllOK.env rfl rfl AllOK.nil
theorem ready_eqg (n : Nat) (now : Int) (pa : Int) (pba : Int) (pbba : (Int × ((List Int) × (Int × Unit)))) (pbbba : Int) (pbbbba : Bool) (pbbbbbb : (Int × (Int × (Int × (Bool × Unit))))) (pbbbbba : (List ((Int × ((List Int) × (Int × Unit))) × Int))) (k : AV → List Blk → Option A) : fnK (ready_E n) Try.f22 [.pure] [.ptr 0 [], .p (.int .i64) now] [.var 63 kT62 (.pr (.p (.int .i64) pa) (.pr (.p (.int .i64) pba) (.pr (.p kT38 pbba) (.pr (.p (.int .i64) pbbba) (.pr (.p .bool pbbbba) (.pr (.mp 1) (.p (.pair (.int .i64) (.pair (.int .i64) (.pair (.int .i64) (.pair .bool .unit)))) pbbbbbb))))))), .map kT38 (.int .i64) pbbbbba] k = ready_p n now pa pba pbba pbbba pbbbba pbbbbbb pbbbbba (fun r0 r1 r2 r3 r4 r5 r6 r7 => k (.p .bool r0) [.var 63 kT62 (.pr (.p (.int .i64) r1) (.pr (.p (.int .i64) r2) (.pr (.p kT38 r3) (.pr (.p (.int .i64) r4) (.pr (.p .bool r5) (.pr (.mp 1) (.p (.pair (.int .i64) (.pair (.int .i64) (.pair (.int .i64) (.pair .bool .unit)))) r6))))))), .map kT38 (.int .i64) r7]) := by kernel_rfl
theorem ready_eq (n : Nat) (now : Int) (pa : Int) (pba : Int) (pbba : (Int × ((List Int) × (Int × Unit)))) (pbbba : Int) (pbbbba : Bool) (pbbbbbb : (Int × (Int × (Int × (Bool × Unit))))) (pbbbbba : (List ((Int × ((List Int) × (Int × Unit))) × Int))) (k : AV → List Blk → Option A) : fnK (ready_E n) Try.f22 [.pure] [.ptr 0 [], .p (.int .i64) now] [.var 63 kT62 (.pr (.p (.int .i64) pa) (.pr (.p (.int .i64) pba) (.pr (.p kT38 pbba) (.pr (.p (.int .i64) pbbba) (.pr (.p .bool pbbbba) (.pr (.mp 1) (.p (.pair (.int .i64) (.pair (.int .i64) (.pair (.int .i64) (.pair .bool .unit)))) pbbbbbb))))))), .map kT38 (.int .i64) pbbbbba] k = ready_k n now pa pba pbba pbbba pbbbba pbbbbbb pbbbbba (fun r0 r1 r2 r3 r4 r5 r6 r7 => k (.p .bool r0) [.var 63 kT62 (.pr (.p (.int .i64) r1) (.pr (.p (.int .i64) r2) (.pr (.p kT38 r3) (.pr (.p (.int .i64) r4) (.pr (.p .bool r5) (.pr (.mp 1) (.p (.pair (.int .i64) (.pair (.int .i64) (.pair (.int .i64) (.pair .bool .unit)))) r6))))))), .map kT38 (.int .i64) r7]) := ready_eqg n now pa pba pbba pbbba pbbbba pbbbbbb pbbbbba k
def ready_sh : Shape := ⟨[(.ptr 0), (.p (.int .i64))], [(.var 63 kT62 (.pr (.p (.int .i64)) (.pr (.p (.int .i64)) (.pr (.p kT38) (.pr (.p (.int .i64)) (.pr (.p .bool) (.pr (.mp 1) (.p (.pair (.int .i64) (.pair (.int .i64) (.pair (.int .i64) (.pair .bool .unit)))))))))))), (.map kT38 (.int .i64))], 2⟩
def ready_ent (g : Int → Int → Int → (Int × ((List Int) × (Int × Unit))) → Int → Bool → (Int × (Int × (Int × (Bool × Unit)))) → (List ((Int × ((List Int) × (Int × Unit))) × Int)) → (Bool → Int → Int → (Int × ((List Int) × (Int × Unit))) → Int → Bool → (Int × (Int × (Int × (Bool × Unit)))) → (List ((Int × ((List Int) × (Int × Unit))) × Int)) → Option A) → Option A) : Entry A := ownE [true, false] ready_sh fun d k => g d.1.2.1 d.2.1.1 d.2.1.2.1 d.2.1.2.2.1 d.2.1.2.2.2.1 d.2.1.2.2.2.2.1 d.2.1.2.2.2.2.2.2 d.2.2.1 (fun r0 r1 r2 r3 r4 r5 r6 r7 => k (.p .bool r0) [.var 63 kT62 (.pr (.p (.int .i64) r1) (.pr (.p (.int .i64) r2) (.pr (.p kT38 r3) (.pr (.p (.int .i64) r4) (.pr (.p .bool r5) (.pr (.mp 1) (.p (.pair (.int .i64) (.pair (.int .i64) (.pair (.int .i64) (.pair .bool .unit)))) r6))))))), .map kT38 (.int .i64) r7])
theorem ready_lo (n : Nat) : ∀ c, Try.f22.body = some c → ∀ q ∈ loopsOf 0 c, ∀ L, (ready_E (A := A) n).lps.lookup q.1 = some L → LoopOK Try.prog gls q.2 L :=
  lo_body (E := ready_E n) (by kernel_rfl : Try.f22.body = some (bodyOf Try.f22)) (lo_of (E := ready_E n) (by kernel_rfl : loopsOf 0 (bodyOf Try.f22) = []) lo_nil)
theorem ready_ok (n : Nat) : FnOK Try.prog gls 22 (ready_ent (A := A) (ready_k n)) :=
  FnOK.ofOwn (ready_T n) (ready_fns n) follows ⟨Try.func22, by kernel_rfl⟩ (ready_lo n) (rm := [.pure]) (S := ready_sh) fun d k => Eq.trans (by kernel_rfl) (ready_eq n d.1.2.1 d.2.1.1 d.2.1.2.1 d.2.1.2.2.1 d.2.1.2.2.2.1 d.2.1.2.2.2.2.1 d.2.1.2.2.2.2.2.2 d.2.2.1 k)

end Go.Ev
end

section
/-
  FUNCTION 14: printed by a program of our own (wip/gen/st.py). '(*masthead/peer.Peer).Ask', in continuation form; the evaluator gives it.
-/
set_option linter.all false
set_option maxRecDepth 100000
namespace Go.Ev
open Go.Proofs
variable {A : Type}

-- ============================================================ ask (function 14)
def ask_p (g_ready : Int → Int → Int → (Int × ((List Int) × (Int × Unit))) → Int → Bool → (Int × (Int × (Int × (Bool × Unit)))) → (List ((Int × ((List Int) × (Int × Unit))) × Int)) → (Bool → Int → Int → (Int × ((List Int) × (Int × Unit))) → Int → Bool → (Int × (Int × (Int × (Bool × Unit)))) → (List ((Int × ((List Int) × (Int × Unit))) × Int)) → Option A) → Option A) (n : Nat) (k_ : (Int × ((List Int) × (Int × Unit)))) (now : Int) (pa : Int) (pba : Int) (pbba : (Int × ((List Int) × (Int × Unit)))) (pbbba : Int) (pbbbba : Bool) (pbbbbbb : (Int × (Int × (Int × (Bool × Unit))))) (pbbbbba : (List ((Int × ((List Int) × (Int × Unit))) × Int))) (k : Int → Int → Int → (Int × ((List Int) × (Int × Unit))) → Int → Bool → (Int × (Int × (Int × (Bool × Unit)))) → (List ((Int × ((List Int) × (Int × Unit))) × Int)) → Option A) : Option A :=
  bif (decide (now < 0)) then
    k 5 pa pba pbba pbbba pbbbba pbbbbbb pbbbbba
  else
    bif (decide (now > 1099511627776)) then
      k 5 pa pba pbba pbbba pbbbba pbbbbbb pbbbbba
    else
      g_ready now pa pba pbba pbbba pbbbba pbbbbbb pbbbbba fun r1 r2 r3 r4 r5 r6 r7 r8 =>
      bif (!r1) then
        k 16 r2 r3 r4 r5 r6 r7 r8
      else
        k 0 r2 r3 k_ (IntKind.wrap .i64 (now + r2)) true r7 r8

def ask_k (n : Nat) (k_ : (Int × ((List Int) × (Int × Unit)))) (now : Int) (pa : Int) (pba : Int) (pbba : (Int × ((List Int) × (Int × Unit)))) (pbbba : Int) (pbbbba : Bool) (pbbbbbb : (Int × (Int × (Int × (Bool × Unit))))) (pbbbbba : (List ((Int × ((List Int) × (Int × Unit))) × Int))) (k : Int → Int → Int → (Int × ((List Int) × (Int × Unit))) → Int → Bool → (Int × (Int × (Int × (Bool × Unit)))) → (List ((Int × ((List Int) × (Int × Unit))) × Int)) → Option A) : Option A := ask_p (ready_k n) n k_ now pa pba pbba pbbba pbbbba pbbbbbb pbbbbba k

noncomputable def ask_E (g_ready : Int → Int → Int → (Int × ((List Int) × (Int × Unit))) → Int → Bool → (Int × (Int × (Int × (Bool × Unit)))) → (List ((Int × ((List Int) × (Int × Unit))) × Int)) → (Bool → Int → Int → (Int × ((List Int) × (Int × Unit))) → Int → Bool → (Int × (Int × (Int × (Bool × Unit)))) → (List ((Int × ((List Int) × (Int × Unit))) × Int)) → Option A) → Option A) (n : Nat) : Env A := ⟨tys, gls, [(22, ready_ent g_ready)], [], []⟩
theorem ask_T (g_ready : Int → Int → Int → (Int × ((List Int) × (Int × Unit))) → Int → Bool → (Int × (Int × (Int × (Bool × Unit)))) → (List ((Int × ((List Int) × (Int × Unit))) × Int)) → (Bool → Int → Int → (Int × ((List Int) × (Int × Unit))) → Int → Bool → (Int × (Int × (Int × (Bool × Unit)))) → (List ((Int × ((List Int) × (Int × Unit))) × Int)) → Option A) → Option A) (n : Nat) : TyOK Try.prog (ask_E g_ready n) := tyOK_of rfl tysB
theorem ask_fns (n : Nat) : FnsOK Try.prog (ask_E (A := A) (ready_k n) n) := AllOK.env rfl rfl (AllOK.cons (ready_ok n) AllOK.nil)
theorem ask_eqg (g_ready : Int → Int → Int → (Int × ((List Int) × (Int × Unit))) → Int → Bool → (Int × (Int × (Int × (Bool × Unit)))) → (List ((Int × ((List Int) × (Int × Unit))) × Int)) → (Bool → Int → Int → (Int × ((List Int) × (Int × Unit))) → Int → Bool → (Int × (Int × (Int × (Bool × Unit)))) → (List ((Int × ((List Int) × (Int × Unit))) × Int)) → Option A) → Option A) (n : Nat) (k_ : (Int × ((List Int) × (Int × Unit)))) (now : Int) (pa : Int) (pba : Int) (pbba : (Int × ((List Int) × (Int × Unit)))) (pbbba : Int) (pbbbba : Bool) (pbbbbbb : (Int × (Int × (Int × (Bool × Unit))))) (pbbbbba : (List ((Int × ((List Int) × (Int × Unit))) × Int))) (k : AV → List Blk → Option A) : fnK (ask_E g_ready n) Try.f14 [.pure] [.ptr 0 [], .p kT38 k_, .p (.int .i64) now] [.var 63 kT62 (.pr (.p (.int .i64) pa) (.pr (.p (.int .i64) pba) (.pr (.p kT38 pbba) (.pr (.p (.int .i64) pbbba) (.pr (.p .bool pbbbba) (.pr (.mp 1) (.p (.pair (.int .i64) (.pair (.int .i64) (.pair (.int .i64) (.pair .bool .unit)))) pbbbbbb))))))), .map kT38 (.int .i64) pbbbbba] k = ask_p g_ready n k_ now pa pba pbba pbbba pbbbba pbbbbbb pbbbbba (fun r0 r1 r2 r3 r4 r5 r6 r7 => k (.p (.int .i64) r0) [.var 63 kT62 (.pr (.p (.int .i64) r1) (.pr (.p (.int .i64) r2) (.pr (.p kT38 r3) (.pr (.p (.int .i64) r4) (.pr (.p .bool r5) (.pr (.mp 1) (.p (.pair (.int .i64) (.pair (.int .i64) (.pair (.int .i64) (.pair .bool .unit)))) r6))))))), .map kT38 (.int .i64) r7]) := by kernel_rfl
theorem ask_eq (n : Nat) (k_ : (Int × ((List Int) × (Int × Unit)))) (now : Int) (pa : Int) (pba : Int) (pbba : (Int × ((List Int) × (Int × Unit)))) (pbbba : Int) (pbbbba : Bool) (pbbbbbb : (Int × (Int × (Int × (Bool × Unit))))) (pbbbbba : (List ((Int × ((List Int) × (Int × Unit))) × Int))) (k : AV → List Blk → Option A) : fnK (ask_E (ready_k n) n) Try.f14 [.pure] [.ptr 0 [], .p kT38 k_, .p (.int .i64) now] [.var 63 kT62 (.pr (.p (.int .i64) pa) (.pr (.p (.int .i64) pba) (.pr (.p kT38 pbba) (.pr (.p (.int .i64) pbbba) (.pr (.p .bool pbbbba) (.pr (.mp 1) (.p (.pair (.int .i64) (.pair (.int .i64) (.pair (.int .i64) (.pair .bool .unit)))) pbbbbbb))))))), .map kT38 (.int .i64) pbbbbba] k = ask_k n k_ now pa pba pbba pbbba pbbbba pbbbbbb pbbbbba (fun r0 r1 r2 r3 r4 r5 r6 r7 => k (.p (.int .i64) r0) [.var 63 kT62 (.pr (.p (.int .i64) r1) (.pr (.p (.int .i64) r2) (.pr (.p kT38 r3) (.pr (.p (.int .i64) r4) (.pr (.p .bool r5) (.pr (.mp 1) (.p (.pair (.int .i64) (.pair (.int .i64) (.pair (.int .i64) (.pair .bool .unit)))) r6))))))), .map kT38 (.int .i64) r7]) := ask_eqg (ready_k n) n k_ now pa pba pbba pbbba pbbbba pbbbbbb pbbbbba k
def ask_sh : Shape := ⟨[(.ptr 0), (.p kT38), (.p (.int .i64))], [(.var 63 kT62 (.pr (.p (.int .i64)) (.pr (.p (.int .i64)) (.pr (.p kT38) (.pr (.p (.int .i64)) (.pr (.p .bool) (.pr (.mp 1) (.p (.pair (.int .i64) (.pair (.int .i64) (.pair (.int .i64) (.pair .bool .unit)))))))))))), (.map kT38 (.int .i64))], 2⟩
def ask_ent (g : (Int × ((List Int) × (Int × Unit))) → Int → Int → Int → (Int × ((List Int) × (Int × Unit))) → Int → Bool → (Int × (Int × (Int × (Bool × Unit)))) → (List ((Int × ((List Int) × (Int × Unit))) × Int)) → (Int → Int → Int → (Int × ((List Int) × (Int × Unit))) → Int → Bool → (Int × (Int × (Int × (Bool × Unit)))) → (List ((Int × ((List Int) × (Int × Unit))) × Int)) → Option A) → Option A) : Entry A := ownE [true, false, false] ask_sh fun d k => g d.1.2.1 d.1.2.2.1 d.2.1.1 d.2.1.2.1 d.2.1.2.2.1 d.2.1.2.2.2.1 d.2.1.2.2.2.2.1 d.2.1.2.2.2.2.2.2 d.2.2.1 (fun r0 r1 r2 r3 r4 r5 r6 r7 => k (.p (.int .i64) r0) [.var 63 kT62 (.pr (.p (.int .i64) r1) (.pr (.p (.int .i64) r2) (.pr (.p kT38 r3) (.pr (.p (.int .i64) r4) (.pr (.p .bool r5) (.pr (.mp 1) (.p (.pair (.int .i64) (.pair (.int .i64) (.pair (.int .i64) (.pair .bool .unit)))) r6))))))), .map kT38 (.int .i64) r7])
theorem ask_lo (n : Nat) : ∀ c, Try.f14.body = some c → ∀ q ∈ loopsOf 0 c, ∀ L, (ask_E (A := A) (ready_k n) n).lps.lookup q.1 = some L → LoopOK Try.prog gls q.2 L :=
  lo_body (E := ask_E (ready_k n) n) (by kernel_rfl : Try.f14.body = some (bodyOf Try.f14)) (lo_of (E := ask_E (ready_k n) n) (by kernel_rfl : loopsOf 0 (bodyOf Try.f14) = []) lo_nil)
theorem ask_ok (n : Nat) : FnOK Try.prog gls 14 (ask_ent (A := A) (ask_k n)) :=
  FnOK.ofOwn (ask_T (ready_k n) n) (ask_fns n) follows ⟨Try.func14, by kernel_rfl⟩ (ask_lo n) (rm := [.pure]) (S := ask_sh) fun d k => Eq.trans (by kernel_rfl) (ask_eq n d.1.2.1 d.1.2.2.1 d.2.1.1 d.2.1.2.1 d.2.1.2.2.1 d.2.1.2.2.2.1 d.2.1.2.2.2.2.1 d.2.1.2.2.2.2.2.2 d.2.2.1 k)

end Go.Ev
end

section
/-
  FUNCTION 41: printed by a program of our own (wip/gen/st.py). 'masthead/mastheadref24.rest', in continuation form; the evaluator gives it.
-/
set_option linter.all false
set_option maxRecDepth 100000
namespace Go.Ev
open Go.Proofs
variable {A : Type}

-- ============================================================ rrest (function 41)
def rrest_p (n : Nat) (a0 : (Int × (Int × (Bool × ((Int × ((List Int) × (Int × Unit))) × (Int × ((List (Int × ((List Int) × (Int × Unit)))) × (Int × (Int × (Int × (Bool × Unit))))))))))) (k : (Int × (Int × (Bool × ((Int × ((List Int) × (Int × Unit))) × (Int × ((List (Int × ((List Int) × (Int × Unit)))) × (Int × (Int × (Int × (Bool × Unit)))))))))) → Option A) : Option A :=
  k (a0.1, (a0.2.1, (false, ((0, ((List.replicate 32 (0 : Int)), (0, ()))), (0, a0.2.2.2.2.2)))))

def rrest_k (n : Nat) (a0 : (Int × (Int × (Bool × ((Int × ((List Int) × (Int × Unit))) × (Int × ((List (Int × ((List Int) × (Int × Unit)))) × (Int × (Int × (Int × (Bool × Unit))))))))))) (k : (Int × (Int × (Bool × ((Int × ((List Int) × (Int × Unit))) × (Int × ((List (Int × ((List Int) × (Int × Unit)))) × (Int × (Int × (Int × (Bool × Unit)))))))))) → Option A) : Option A := rrest_p n a0 k

noncomputable def rrest_E (n : Nat) : Env A := ⟨tys, gls, [], [], []⟩
theorem rrest_T {A : Type} (n : Nat) : TyOK Try.prog (rrest_E (A := A) n) := tyOK_of rfl tysB
theorem rrest_fns (n : Nat) : FnsOK Try.prog (rrest_E (A := A) n) := AllOK.env rfl rfl AllOK.nil
theorem rrest_eqg (n : Nat) (a0 : (Int × (Int × (Bool × ((Int × ((List Int) × (Int × Unit))) × (Int × ((List (Int × ((List Int) × (Int × Unit)))) × (Int × (Int × (Int × (Bool × Unit))))))))))) (k : AV → List Blk → Option A) : fnK (rrest_E n) Try.f41 [.pure] [.p kT53 a0] [] k = rrest_p n a0 (fun r0 => k (.p kT53 r0) []) := by kernel_rfl
theorem rrest_eq (n : Nat) (a0 : (Int × (Int × (Bool × ((Int × ((List Int) × (Int × Unit))) × (Int × ((List (Int × ((List Int) × (Int × Unit)))) × (Int × (Int × (Int × (Bool × Unit))))))))))) (k : AV → List Blk → Option A) : fnK (rrest_E n) Try.f41 [.pure] [.p kT53 a0] [] k = rrest_k n a0 (fun r0 => k (.p kT53 r0) []) := rrest_eqg n a0 k
def rrest_ent (g : (Int × (Int × (Bool × ((Int × ((List Int) × (Int × Unit))) × (Int × ((List (Int × ((List Int) × (Int × Unit)))) × (Int × (Int × (Int × (Bool × Unit)))))))))) → ((Int × (Int × (Bool × ((Int × ((List Int) × (Int × Unit))) × (Int × ((List (Int × ((List Int) × (Int × Unit)))) × (Int × (Int × (Int × (Bool × Unit)))))))))) → Option A) → Option A) : Entry A := pureE fun args k => args1 args kT53 fun a0 => g a0 (fun r0 => k (.p kT53 r0) [])
theorem rrest_lo (n : Nat) : ∀ c, Try.f41.body = some c → ∀ q ∈ loopsOf 0 c, ∀ L, (rrest_E (A := A) n).lps.lookup q.1 = some L → LoopOK Try.prog gls q.2 L :=
  lo_body (E := rrest_E n) (by kernel_rfl : Try.f41.body = some (bodyOf Try.f41)) (lo_of (E := rrest_E n) (by kernel_rfl : loopsOf 0 (bodyOf Try.f41) = []) lo_nil)
theorem rrest_ok (n : Nat) : FnOK Try.prog gls 41 (rrest_ent (A := A) (rrest_k n)) :=
  FnOK.of (rrest_T n) (rrest_fns n) follows ⟨Try.func41, by kernel_rfl⟩ (rrest_lo n) (rm := [.pure]) fun args k out h => by
    obtain ⟨a0, e, h1⟩ := args1_sound h
    subst e; rw [rrest_eq]; exact h1

end Go.Ev
end

