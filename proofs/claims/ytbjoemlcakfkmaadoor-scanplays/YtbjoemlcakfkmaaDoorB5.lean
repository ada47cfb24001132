import Derived.Test.YtbjoemlcakfkmaaDoorProg
import Derived.Test.YtbjoemlcakfkmaaDoorB4
import Derived.KernelRfl
import Derived.Test.YtbjoemlcakfkmaaDoorB3
set_option linter.all false
section
/-
  TYPES: printed by a program of our own (wip/gen/st.py). The types that the functions' code names, as kinds.
-/
set_option linter.all false
namespace Go.Ev
open Go.Proofs

abbrev kA32u8 : Kind := (.arr 32 (.int .u8))
abbrev kT33 : Kind := (.pair (.int .i64) (.pair kA32u8 (.pair (.int .i64) .unit)))
abbrev kT44 : Kind := (.pair (.int .i64) (.pair (.int .u8) (.pair (.int .i64) (.pair (.sl (.int .i64)) .unit))))
abbrev kA16u8 : Kind := (.arr 16 (.int .u8))
abbrev kT73 : Kind := (.pair kA32u8 (.pair (.sl (.int .i64)) .unit))
abbrev kT47 : Kind := (.pair (.int .i64) (.pair (.sl kT73) .unit))
abbrev kT18 : Kind := (.pair .opq .unit)
abbrev kT56 : Kind := (.pair (.int .i64) kT18)
def gl0 : (List Int) := [0, 1, 28, 2, 29, 14, 24, 3, 30, 22, 20, 15, 25, 17, 4, 8, 31, 27, 13, 23, 21, 19, 16, 7, 26, 12, 18, 6, 11, 5, 10, 9]
def gls : GL := [(0, ⟨kA32u8, gl0⟩)]
def tys : List (TypeId × TI) := [(3, ⟨(.int .i64), .prim, 8, true⟩), (4, ⟨.bool, .prim, 1, true⟩), (5, ⟨(.int .u8), .prim, 1, true⟩), (22, ⟨(.sl (.int .u8)), (.slice 5), 24, false⟩), (23, ⟨(.sl (.sl (.int .i64))), (.slice 38), 24, false⟩), (24, ⟨.opq, (.ptr 57), 8, false⟩), (25, ⟨(.int .i64), .prim, 8, true⟩), (29, ⟨(.sl kA32u8), (.slice 32), 24, false⟩), (31, ⟨kA32u8, (.array 32 5), 32, true⟩), (32, ⟨kA32u8, (.array 32 5), 32, true⟩), (34, ⟨kT33, (.struct [3, 32, 3]), 48, true⟩), (38, ⟨(.sl (.int .i64)), (.slice 3), 24, false⟩), (42, ⟨(.sl kT44), (.slice 45), 24, false⟩), (43, ⟨kA16u8, (.array 16 5), 16, true⟩), (45, ⟨kT44, (.struct [3, 5, 3, 38]), 48, false⟩), (46, ⟨(.sl kT73), (.slice 74), 24, false⟩), (48, ⟨kT47, (.struct [3, 46]), 32, false⟩), (55, ⟨.opq, (.map 32 58), 8, false⟩), (57, ⟨kT56, (.struct [3, 55]), 16, false⟩), (58, ⟨(.int .u16), .prim, 2, true⟩), (67, ⟨kT33, (.struct [3, 31, 3]), 48, true⟩), (70, ⟨(.sl kA32u8), (.slice 31), 24, false⟩), (74, ⟨kT73, (.struct [31, 38]), 56, false⟩), (78, ⟨(.int .u32), .prim, 4, true⟩)]
theorem tysB : tys.all (tyB Tryd.prog tys) = true := by kernel_rfl
theorem follows : Tryd.prog.follows .mixedOrders = true := by kernel_rfl
end Go.Ev
end

section
/-
  FUNCTION 16: printed by a program of our own (wip/gen/st.py). 'math/bits.TrailingZeros16', in continuation form; the evaluator gives it.
-/
set_option linter.all false
set_option maxRecDepth 100000
namespace Go.Ev
open Go.Proofs
variable {A : Type}

-- ============================================================ tz16 (function 16)
def tz16_p (n : Nat) (a0 : Int) (k : Int → Option A) : Option A :=
  bif (a0 == 0) then
    k 16
  else
    if 0 ≤ (shr .u32 (IntKind.wrap .u32 ((IntKind.wrap .u32 (iand .u16 a0 (IntKind.wrap .u16 (0 - a0)))) * 125613361)) 27) then
      if (shr .u32 (IntKind.wrap .u32 ((IntKind.wrap .u32 (iand .u16 a0 (IntKind.wrap .u16 (0 - a0)))) * 125613361)) 27) < 32 then
        (gl0[(Int.toNat (shr .u32 (IntKind.wrap .u32 ((IntKind.wrap .u32 (iand .u16 a0 (IntKind.wrap .u16 (0 - a0)))) * 125613361)) 27))]?).bind fun y1 =>
        k (IntKind.wrap .i64 y1)
      else none
    else none

def tz16_k (n : Nat) (a0 : Int) (k : Int → Option A) : Option A := tz16_p n a0 k

noncomputable def tz16_E (n : Nat) : Env A := ⟨tys, gls, [], [], []⟩
theorem tz16_T {A : Type} (n : Nat) : TyOK Tryd.prog (tz16_E (A := A) n) := tyOK_of rfl tysB
theorem tz16_fns (n : Nat) : FnsOK Tryd.prog (tz16_E (A := A) n) := AllOK.env rfl rfl AllOK.nil
theorem tz16_eqg (n : Nat) (a0 : Int) (k : AV → List Blk → Option A) : fnK (tz16_E n) Tryd.f16 [.pure] [.p (.int .u16) a0] [] k = tz16_p n a0 (fun r0 => k (.p (.int .i64) r0) []) := by kernel_rfl
theorem tz16_eq (n : Nat) (a0 : Int) (k : AV → List Blk → Option A) : fnK (tz16_E n) Tryd.f16 [.pure] [.p (.int .u16) a0] [] k = tz16_k n a0 (fun r0 => k (.p (.int .i64) r0) []) := tz16_eqg n a0 k
def tz16_ent (g : Int → (Int → Option A) → Option A) : Entry A := pureE fun args k => args1 args (.int .u16) fun a0 => g a0 (fun r0 => k (.p (.int .i64) r0) [])
theorem tz16_lo (n : Nat) : ∀ c, Tryd.f16.body = some c → ∀ q ∈ loopsOf 0 c, ∀ L, (tz16_E (A := A) n).lps.lookup q.1 = some L → LoopOK Tryd.prog gls q.2 L :=
  lo_body (E := tz16_E n) (by kernel_rfl : Tryd.f16.body = some (bodyOf Tryd.f16)) (lo_of (E := tz16_E n) (by kernel_rfl : loopsOf 0 (bodyOf Tryd.f16) = []) lo_nil)
theorem tz16_ok (n : Nat) : FnOK Tryd.prog gls 16 (tz16_ent (A := A) (tz16_k n)) :=
  FnOK.of (tz16_T n) (tz16_fns n) follows ⟨Tryd.func16, by kernel_rfl⟩ (tz16_lo n) (rm := [.pure]) fun args k out h => by
    obtain ⟨a0, e, h1⟩ := args1_sound h
    subst e; rw [tz16_eq]; exact h1

end Go.Ev
end

section
/-
  FUNCTION 27: printed by a program of our own (wip/gen/st.py). 'masthead/mastheadref25.has', in continuation form; the evaluator gives it.
-/
set_option linter.all false
set_option maxRecDepth 100000
namespace Go.Ev
open Go.Proofs
variable {A : Type}

-- ============================================================ has (function 27)
def has_b0 (n : Nat) (l : (List Int)) (n_ : Int) (k0 : Option A) (k1 : Option A) (r : Int → Option A) (i : Int) : Option A :=
  bif (decide (i < (l.length : Int))) then
    if 0 ≤ i then
      (l[(Int.toNat i)]?).bind fun y1 =>
      bif (y1 == n_) then
        k0
      else
        r (IntKind.wrap .i64 (i + 1))
    else none
  else
    k1

def has_l0 (n : Nat) (l : (List Int)) (n_ : Int) (k0 : Option A) (k1 : Option A) : Nat → Int → Option A
  | 0 => fun _ => none
  | f + 1 => has_b0 n l n_ k0 k1 (has_l0 n l n_ k0 k1 f)

def has_p (n : Nat) (a0 : (List Int)) (a1 : Int) (k : Bool → Option A) : Option A :=
  has_l0 n a0 a1 (
    k true) (
    k false) n 0

def has_k (n : Nat) (a0 : (List Int)) (a1 : Int) (k : Bool → Option A) : Option A := has_p n a0 a1 k

noncomputable def has_c0 : Code := codeAt [1, 0, 1, 0, 0] (bodyOf Tryd.f27)
def has_d0 : List Nat := [4, 6, 7, 8, 9, 10, 11, 12, 13, 14, 15, 16, 17]
def has_y0 : List Nat := [0, 1, 2, 3, 5, 6, 7, 8, 9, 10, 11, 12, 13, 14, 15, 16, 17]
def has_sh0 : Shape := ⟨[(.p (.sl (.int .i64))), (.p (.int .i64)), .any, .any, .any, (.p (.int .i64)), .any, .any, .any, .any, .any, .any, .any, .any, .any, .any, .any, .any], [], 0⟩
def has_x0_0 (l : (List Int)) (n_ : Int) : St := ⟨[.any, .any, .any, .any, .p .bool true, .any, .any, .any, .any, .any, .any, .any, .any, .any, .any, .any, .any, .any], [], 0⟩
def has_x0_1 (l : (List Int)) (n_ : Int) : St := ⟨[.any, .any, .any, .any, .any, .any, .any, .any, .any, .any, .any, .any, .any, .any, .any, .any, .any, .any], [], 0⟩
def has_g0 (n : Nat) (d : has_sh0.den) (k : Ex → St → Option A) : Option A :=
  has_l0 n d.1.1 d.1.2.1 (k .ret (has_x0_0 d.1.1 d.1.2.1)) (k (.exit 0) (has_x0_1 d.1.1 d.1.2.1)) n d.1.2.2.2.2.2.1
noncomputable def has_E (n : Nat) : Env A := ⟨tys, gls, [], [(0, loopE has_d0 has_sh0 (has_g0 n))], []⟩
theorem has_T {A : Type} (n : Nat) : TyOK Tryd.prog (has_E (A := A) n) := tyOK_of rfl tysB
theorem has_fns (n : Nat) : FnsOK Tryd.prog (has_E (A := A) n) := AllOK.env rfl rfl AllOK.nil
noncomputable def has_LK0 (n : Nat) (l : (List Int)) (n_ : Int) (k : Ex → St → Option A) (f : Nat) (i : Int) : Option A := loopK (codeK (has_E n) 1 has_c0) has_d0 has_y0 f (⟨[.p (.sl (.int .i64)) l, .p (.int .i64) n_, .any, .any, .any, .p (.int .i64) i, .any, .any, .any, .any, .any, .any, .any, .any, .any, .any, .any, .any], [], 0⟩) k
theorem has_st0 (n f : Nat) (l : (List Int)) (n_ : Int) (k : Ex → St → Option A) (i : Int) : has_LK0 n l n_ k (f + 1) i = has_b0 n l n_ (k .ret (has_x0_0 l n_)) (k (.exit 0) (has_x0_1 l n_)) (has_LK0 n l n_ k f) i := by kernel_rfl
theorem has_le0 (n : Nat) (l : (List Int)) (n_ : Int) (k : Ex → St → Option A) : ∀ (f : Nat) (i : Int), has_LK0 n l n_ k f i = has_l0 n l n_ (k .ret (has_x0_0 l n_)) (k (.exit 0) (has_x0_1 l n_)) f i := by
  intro f
  induction f with
  | zero => intros; kernel_rfl
  | succ f ih => intro i; exact (has_st0 n f l n_ k i).trans ((congrArg (fun r => has_b0 n l n_ (k .ret (has_x0_0 l n_)) (k (.exit 0) (has_x0_1 l n_)) r i) (funext fun i => ih i)).trans (by kernel_rfl))
theorem has_lo0 (n : Nat) : LoopOK Tryd.prog gls has_c0 (loopE has_d0 has_sh0 (has_g0 (A := A) n)) :=
  LoopOK.of (has_T n) (has_fns n) follows (j := 1) (n := n) (xdead := has_y0) (lo_of (by kernel_rfl : loopsOf 1 has_c0 = []) lo_nil) fun d k => Eq.trans (by kernel_rfl) (has_le0 n d.1.1 d.1.2.1 k n d.1.2.2.2.2.2.1)
theorem has_eqg (n : Nat) (a0 : (List Int)) (a1 : Int) (k : AV → List Blk → Option A) : fnK (has_E n) Tryd.f27 [.pure] [.p (.sl (.int .i64)) a0, .p (.int .i64) a1] [] k = has_p n a0 a1 (fun r0 => k (.p .bool r0) []) := by kernel_rfl
theorem has_eq (n : Nat) (a0 : (List Int)) (a1 : Int) (k : AV → List Blk → Option A) : fnK (has_E n) Tryd.f27 [.pure] [.p (.sl (.int .i64)) a0, .p (.int .i64) a1] [] k = has_k n a0 a1 (fun r0 => k (.p .bool r0) []) := has_eqg n a0 a1 k
def has_ent (g : (List Int) → Int → (Bool → Option A) → Option A) : Entry A := pureE fun args k => args2 args (.sl (.int .i64)) (.int .i64) fun a0 a1 => g a0 a1 (fun r0 => k (.p .bool r0) [])
theorem has_lo (n : Nat) : ∀ c, Tryd.f27.body = some c → ∀ q ∈ loopsOf 0 c, ∀ L, (has_E (A := A) n).lps.lookup q.1 = some L → LoopOK Tryd.prog gls q.2 L :=
  lo_body (E := has_E n) (by kernel_rfl : Tryd.f27.body = some (bodyOf Tryd.f27)) (lo_of (E := has_E n) (by kernel_rfl : loopsOf 0 (bodyOf Tryd.f27) = [(0, has_c0)]) (lo_cons rfl (has_lo0 n) lo_nil))
theorem has_ok (n : Nat) : FnOK Tryd.prog gls 27 (has_ent (A := A) (has_k n)) :=
  FnOK.of (has_T n) (has_fns n) follows ⟨Tryd.func27, by kernel_rfl⟩ (has_lo n) (rm := [.pure]) fun args k out h => by
    obtain ⟨a0, a1, e, h1⟩ := args2_sound h
    subst e; rw [has_eq]; exact h1

end Go.Ev
end

section
/-
  FUNCTION 14: printed by a program of our own (wip/gen/st.py). 'masthead/mastheadlaw25.block', in continuation form; the evaluator gives it.
-/
set_option linter.all false
set_option maxRecDepth 100000
namespace Go.Ev
open Go.Proofs
variable {A : Type}

-- ============================================================ block (function 14)
def block_p (n : Nat) (a0 : Int) (k : (List Int) → Option A) : Option A :=
  k (((List.replicate 32 (0 : Int)).set 0 (iand .u8 a0 15)).set 1 1)

def block_k (n : Nat) (a0 : Int) (k : (List Int) → Option A) : Option A := block_p n a0 k

noncomputable def block_E (n : Nat) : Env A := ⟨tys, gls, [], [], []⟩
theorem block_T {A : Type} (n : Nat) : TyOK Tryd.prog (block_E (A := A) n) := tyOK_of rfl tysB
theorem block_fns (n : Nat) : FnsOK Tryd.prog (block_E (A := A) n) := AllOK.env rfl rfl AllOK.nil
theorem block_eqg (n : Nat) (a0 : Int) (k : AV → List Blk → Option A) : fnK (block_E n) Tryd.f14 [.pure] [.p (.int .u8) a0] [] k = block_p n a0 (fun r0 => k (.p kA32u8 r0) []) := by kernel_rfl
theorem block_eq (n : Nat) (a0 : Int) (k : AV → List Blk → Option A) : fnK (block_E n) Tryd.f14 [.pure] [.p (.int .u8) a0] [] k = block_k n a0 (fun r0 => k (.p kA32u8 r0) []) := block_eqg n a0 k
def block_ent (g : Int → ((List Int) → Option A) → Option A) : Entry A := pureE fun args k => args1 args (.int .u8) fun a0 => g a0 (fun r0 => k (.p kA32u8 r0) [])
theorem block_lo (n : Nat) : ∀ c, Tryd.f14.body = some c → ∀ q ∈ loopsOf 0 c, ∀ L, (block_E (A := A) n).lps.lookup q.1 = some L → LoopOK Tryd.prog gls q.2 L :=
  lo_body (E := block_E n) (by kernel_rfl : Tryd.f14.body = some (bodyOf Tryd.f14)) (lo_of (E := block_E n) (by kernel_rfl : loopsOf 0 (bodyOf Tryd.f14) = []) lo_nil)
theorem block_ok (n : Nat) : FnOK Tryd.prog gls 14 (block_ent (A := A) (block_k n)) :=
  FnOK.of (block_T n) (block_fns n) follows ⟨Tryd.func14, by kernel_rfl⟩ (block_lo n) (rm := [.pure]) fun args k out h => by
    obtain ⟨a0, e, h1⟩ := args1_sound h
    subst e; rw [block_eq]; exact h1

end Go.Ev
end

section
/-
  FUNCTION 8: printed by a program of our own (wip/gen/st.py). 'masthead/mastheadlaw25.row', in continuation form; the evaluator gives it.
-/
set_option linter.all false
set_option maxRecDepth 100000
namespace Go.Ev
open Go.Proofs
variable {A : Type}

-- ============================================================ row (function 8)
def row_b0 (g_block : Int → ((List Int) → Option A) → Option A) (n : Nat) (t6 : (List Int)) (t7 : Int) (k0 : (List (List Int)) → Option A) (r : Int → (List (List Int)) → Option A) (t8 : Int) (out : (List (List Int))) : Option A :=
  bif (decide (t8 < t7)) then
    if 0 ≤ t8 then
      (t6[(Int.toNat t8)]?).bind fun y1 =>
      g_block y1 fun r2 =>
      if (out.length + 1) * 32 ≤ 140737488355328 then
        r (IntKind.wrap .i64 (t8 + 1)) (out ++ [r2])
      else none
    else none
  else
    k0 out

def row_l0 (g_block : Int → ((List Int) → Option A) → Option A) (n : Nat) (t6 : (List Int)) (t7 : Int) (k0 : (List (List Int)) → Option A) : Nat → Int → (List (List Int)) → Option A
  | 0 => fun _ _ => none
  | f + 1 => row_b0 g_block n t6 t7 k0 (row_l0 g_block n t6 t7 k0 f)

def row_p (g_block : Int → ((List Int) → Option A) → Option A) (n : Nat) (a0 : (List Int)) (k : (List (List Int)) → Option A) : Option A :=
  row_l0 g_block n a0 (a0.length : Int) (fun y3 =>
    k y3) n 0 []

def row_k (n : Nat) (a0 : (List Int)) (k : (List (List Int)) → Option A) : Option A := row_p (block_k n) n a0 k

noncomputable def row_c0 : Code := codeAt [1, 1, 0, 1, 0, 0] (bodyOf Tryd.f8)
def row_d0 : List Nat := [0, 2, 5, 9, 10, 11, 12, 13, 14, 15, 16, 17]
def row_y0 : List Nat := [0, 1, 2, 4, 5, 6, 7, 8, 9, 10, 11, 12, 13, 14, 15, 16, 17, 18]
def row_sh0 : Shape := ⟨[.any, .any, .any, (.row 0), .any, .any, (.p (.sl (.int .u8))), (.p (.int .i64)), (.p (.int .i64)), .any, .any, .any, .any, .any, .any, .any, .any, .any, .any], [(.row 32 kA32u8)], 0⟩
def row_x0_0 (t6 : (List Int)) (t7 : Int) (z0 : (List (List Int))) : St := ⟨[.any, .any, .any, .row 0, .any, .any, .any, .any, .any, .any, .any, .any, .any, .any, .any, .any, .any, .any, .any], [.row 32 kA32u8 z0], 0⟩
def row_g0 (g_block : Int → ((List Int) → Option A) → Option A) (n : Nat) (d : row_sh0.den) (k : Ex → St → Option A) : Option A :=
  row_l0 g_block n d.1.2.2.2.2.2.2.1 d.1.2.2.2.2.2.2.2.1 (fun z0 => k (.exit 0) (row_x0_0 d.1.2.2.2.2.2.2.1 d.1.2.2.2.2.2.2.2.1 z0)) n d.1.2.2.2.2.2.2.2.2.1 d.2.1
noncomputable def row_E (g_block : Int → ((List Int) → Option A) → Option A) (n : Nat) : Env A := ⟨tys, gls, [(14, block_ent g_block)], [(0, loopE row_d0 row_sh0 (row_g0 g_block n))], []⟩
theorem row_T (g_block : Int → ((List Int) → Option A) → Option A) (n : Nat) : TyOK Tryd.prog (row_E g_block n) := tyOK_of rfl tysB
theorem row_fns (n : Nat) : FnsOK Tryd.prog (row_E (A := A) (block_k n) n) := AllOK.env rfl rfl (AllOK.cons (block_ok n) AllOK.nil)
noncomputable def row_LK0 (g_block : Int → ((List Int) → Option A) → Option A) (n : Nat) (t6 : (List Int)) (t7 : Int) (k : Ex → St → Option A) (f : Nat) (t8 : Int) (out : (List (List Int))) : Option A := loopK (codeK (row_E g_block n) 1 row_c0) row_d0 row_y0 f (⟨[.any, .any, .any, .row 0, .any, .any, .p (.sl (.int .u8)) t6, .p (.int .i64) t7, .p (.int .i64) t8, .any, .any, .any, .any, .any, .any, .any, .any, .any, .any], [.row 32 kA32u8 out], 0⟩) k
theorem row_st0 (g_block : Int → ((List Int) → Option A) → Option A) (n f : Nat) (t6 : (List Int)) (t7 : Int) (k : Ex → St → Option A) (t8 : Int) (out : (List (List Int))) : row_LK0 g_block n t6 t7 k (f + 1) t8 out = row_b0 g_block n t6 t7 (fun z0 => k (.exit 0) (row_x0_0 t6 t7 z0)) (row_LK0 g_block n t6 t7 k f) t8 out := by kernel_rfl
theorem row_le0 (g_block : Int → ((List Int) → Option A) → Option A) (n : Nat) (t6 : (List Int)) (t7 : Int) (k : Ex → St → Option A) : ∀ (f : Nat) (t8 : Int) (out : (List (List Int))), row_LK0 g_block n t6 t7 k f t8 out = row_l0 g_block n t6 t7 (fun z0 => k (.exit 0) (row_x0_0 t6 t7 z0)) f t8 out := by
  intro f
  induction f with
  | zero => intros; kernel_rfl
  | succ f ih => intro t8 out; exact (row_st0 g_block n f t6 t7 k t8 out).trans ((congrArg (fun r => row_b0 g_block n t6 t7 (fun z0 => k (.exit 0) (row_x0_0 t6 t7 z0)) r t8 out) (funext fun t8 => funext fun out => ih t8 out)).trans (by kernel_rfl))
theorem row_lo0 (n : Nat) : LoopOK Tryd.prog gls row_c0 (loopE row_d0 row_sh0 (row_g0 (A := A) (block_k n) n)) :=
  LoopOK.of (row_T (block_k n) n) (row_fns n) follows (j := 1) (n := n) (xdead := row_y0) (lo_of (by kernel_rfl : loopsOf 1 row_c0 = []) lo_nil) fun d k => Eq.trans (by kernel_rfl) (row_le0 (block_k n) n d.1.2.2.2.2.2.2.1 d.1.2.2.2.2.2.2.2.1 k n d.1.2.2.2.2.2.2.2.2.1 d.2.1)
theorem row_eqg (g_block : Int → ((List Int) → Option A) → Option A) (n : Nat) (a0 : (List Int)) (k : AV → List Blk → Option A) : fnK (row_E g_block n) Tryd.f8 [.pure] [.p (.sl (.int .u8)) a0] [] k = row_p g_block n a0 (fun r0 => k (.p (.sl kA32u8) r0) []) := by kernel_rfl
theorem row_eq (n : Nat) (a0 : (List Int)) (k : AV → List Blk → Option A) : fnK (row_E (block_k n) n) Tryd.f8 [.pure] [.p (.sl (.int .u8)) a0] [] k = row_k n a0 (fun r0 => k (.p (.sl kA32u8) r0) []) := row_eqg (block_k n) n a0 k
def row_ent (g : (List Int) → ((List (List Int)) → Option A) → Option A) : Entry A := pureE fun args k => args1 args (.sl (.int .u8)) fun a0 => g a0 (fun r0 => k (.p (.sl kA32u8) r0) [])
theorem row_lo (n : Nat) : ∀ c, Tryd.f8.body = some c → ∀ q ∈ loopsOf 0 c, ∀ L, (row_E (A := A) (block_k n) n).lps.lookup q.1 = some L → LoopOK Tryd.prog gls q.2 L :=
  lo_body (E := row_E (block_k n) n) (by kernel_rfl : Tryd.f8.body = some (bodyOf Tryd.f8)) (lo_of (E := row_E (block_k n) n) (by kernel_rfl : loopsOf 0 (bodyOf Tryd.f8) = [(0, row_c0)]) (lo_cons rfl (row_lo0 n) lo_nil))
theorem row_ok (n : Nat) : FnOK Tryd.prog gls 8 (row_ent (A := A) (row_k n)) :=
  FnOK.of (row_T (block_k n) n) (row_fns n) follows ⟨Tryd.func8, by kernel_rfl⟩ (row_lo n) (rm := [.pure]) fun args k out h => by
    obtain ⟨a0, e, h1⟩ := args1_sound h
    subst e; rw [row_eq]; exact h1

end Go.Ev
end

section
/-
  SCAN: plain laws: the lowest bit, bits of a block's open items, lines of blocks.
-/
set_option linter.all false
namespace Go.Ev
variable {A : Type}

abbrev BK := kA32u8.den
abbrev SM := List (BK × Int)

/-- The lowest bit; how many there are. -/
def tzn (v : Nat) : Nat := ((List.range 8).find? fun t => v.testBit t).getD 8
def pc (v : Nat) : Nat := ((List.range 8).filter fun t => v.testBit t).length

theorem tz16_some : ∀ v : Nat, v < 256 → 0 < v → tz16_k 0 (v : Int) (fun r => some r) = some ((tzn v : Nat) : Int) := by decide +kernel
theorem tz16_bind (n : Nat) (x : Int) (g : Int → Option A) : tz16_k n x g = (tz16_k 0 x (fun r => some r)).bind g := by
  unfold tz16_k tz16_p
  cases (x == 0) with
  | true => rfl
  | false =>
    rw [cond_false, cond_false]
    split
    · split
      · cases (gl0[(Int.toNat (shr .u32 (IntKind.wrap .u32 ((IntKind.wrap .u32 (iand .u16 x (IntKind.wrap .u16 (0 - x)))) * 125613361)) 27))]?) <;> rfl
      · rfl
    · rfl
theorem tz16_law (n v : Nat) (h0 : 0 < v) (h : v < 256) (g : Int → Option A) : tz16_k n (v : Int) g = g ((tzn v : Nat) : Int) := by
  rw [tz16_bind, tz16_some v h h0]; rfl

theorem bit_facts : ∀ v : Nat, v < 256 → 0 < v → (iand .u16 (shr .u16 (v : Int) ((tzn v : Nat) : Int)) 1 == 0) = false ∧ iandNot .u16 (v : Int) (shl .u16 1 ((tzn v : Nat) : Int)) = ((v - 2 ^ tzn v : Nat) : Int) ∧ pc (v - 2 ^ tzn v) + 1 = pc v ∧ 2 ^ tzn v ≤ v := by decide +kernel
theorem tzn_lt : ∀ k : Nat, k ≤ 8 → ∀ v : Nat, v < 2 ^ k → 0 < v → tzn v < k := by decide +kernel
theorem pc_le : ∀ k : Nat, k ≤ 8 → ∀ v : Nat, v < 2 ^ k → pc v ≤ k := by decide +kernel
theorem pc_pos : ∀ v : Nat, v < 256 → 0 < v → 0 < pc v := by decide +kernel
theorem or_bit : ∀ k : Nat, k ≤ 8 → ∀ v : Nat, v < 2 ^ k → ∀ t : Nat, t < k → ior .u16 (v : Int) (shl .u16 1 (t : Int)) = ((v ||| 2 ^ t : Nat) : Int) ∧ v ||| 2 ^ t < 2 ^ k := by decide +kernel

/-- A small number's block. -/
def blk (x : Int) : BK := ((List.replicate 32 (0 : Int)).set 0 (iand .u8 x 15)).set 1 1

theorem row_l0_law (n : Nat) (l : List Int) (hl : l.length < 100000) (k0 : List BK → Option A) : ∀ (d f i : Nat) (o : List BK), i + d = l.length → d < f → o.length = i →
    row_l0 (block_k n) n l (l.length : Int) k0 f (i : Int) o = k0 (o ++ (l.drop i).map blk) := by
  intro d
  induction d with
  | zero =>
    intro f i o hi hf ho
    obtain ⟨f, rfl⟩ : ∃ g, f = g + 1 := ⟨f - 1, by omega⟩
    rw [row_l0, row_b0, decide_eq_false (by omega), cond_false, List.drop_eq_nil_of_le (by omega)]; simp
  | succ d ih =>
    intro f i o hi hf ho
    obtain ⟨f, rfl⟩ : ∃ g, f = g + 1 := ⟨f - 1, by omega⟩
    have hlt : i < l.length := by omega
    have e1 : IntKind.wrap .i64 ((i : Int) + 1) = ((i + 1 : Nat) : Int) := by rw [wrap_id (by omega) (by omega)]; omega
    rw [row_l0, row_b0, decide_eq_true (by omega), cond_true, if_pos (by omega), Int.toNat_natCast, List.getElem?_eq_getElem hlt, Option.bind_some]
    show (if (o.length + 1) * 32 ≤ 140737488355328 then row_l0 (block_k n) n l (l.length : Int) k0 f (IntKind.wrap .i64 ((i : Int) + 1)) (o ++ [blk l[i]]) else none) = _
    rw [if_pos (by omega), e1, ih f (i + 1) (o ++ [blk l[i]]) (by omega) (by omega) (by rw [List.length_append, ho]; rfl), List.append_assoc, List.drop_eq_getElem_cons hlt]
    rfl
theorem row_law (n : Nat) (l : List Int) (hl : l.length < n) (hl2 : l.length < 100000) (g : List BK → Option A) : row_k n l g = g (l.map blk) := by
  unfold row_k row_p
  have h := row_l0_law n l hl2 (fun y3 => g y3) l.length n 0 [] (by omega) (by omega) rfl
  exact h

theorem has_l0_law (n : Nat) (l : List Int) (x : Int) (k0 k1 : Option A) (hl : l.length ≤ 9223372036854775807) : ∀ (d f i : Nat), i + d = l.length → d < f →
    has_l0 n l x k0 k1 f (i : Int) = if x ∈ l.drop i then k0 else k1 := by
  intro d
  induction d with
  | zero =>
    intro f i hi hf
    obtain ⟨f, rfl⟩ : ∃ g, f = g + 1 := ⟨f - 1, by omega⟩
    rw [has_l0, has_b0, decide_eq_false (by omega), cond_false, List.drop_eq_nil_of_le (by omega)]; simp
  | succ d ih =>
    intro f i hi hf
    obtain ⟨f, rfl⟩ : ∃ g, f = g + 1 := ⟨f - 1, by omega⟩
    have hlt : i < l.length := by omega
    have e1 : IntKind.wrap .i64 ((i : Int) + 1) = ((i + 1 : Nat) : Int) := by rw [wrap_id (by omega) (by omega)]; omega
    rw [has_l0, has_b0, decide_eq_true (by omega), cond_true, if_pos (by omega), Int.toNat_natCast, List.getElem?_eq_getElem hlt, Option.bind_some, e1, ih f (i + 1) (by omega) (by omega), List.drop_eq_getElem_cons hlt]
    by_cases h : l[i] = x
    · rw [show (l[i] == x) = true from by rw [h]; exact beq_self_eq_true x, cond_true, if_pos (by rw [h]; exact List.mem_cons_self)]
    · rw [beq_eq_false_iff_ne.2 h, cond_false]
      have : x ∈ l[i] :: l.drop (i + 1) ↔ x ∈ l.drop (i + 1) := by
        rw [List.mem_cons]; exact ⟨fun h' => h'.resolve_left fun e => h e.symm, .inr⟩
      by_cases h2 : x ∈ l.drop (i + 1)
      · rw [if_pos h2, if_pos (this.2 h2)]
      · rw [if_neg h2, if_neg (fun h' => h2 (this.1 h'))]
theorem has_law (n : Nat) (l : List Int) (x : Int) (hl : l.length ≤ 9223372036854775807) (hn : l.length < n) (g : Bool → Option A) : has_k n l x g = g (decide (x ∈ l)) := by
  unfold has_k has_p
  have h := has_l0_law n l x (g true) (g false) hl l.length n 0 (by omega) (by omega)
  refine Eq.trans h ?_
  rw [List.drop_zero]
  by_cases hx : x ∈ l
  · rw [if_pos hx, decide_eq_true hx]
  · rw [if_neg hx, decide_eq_false hx]

end Go.Ev
end

section
/-
  FUNCTION 6: printed by a program of our own (wip/gen/st.py). 'masthead/scan.New', in continuation form; the evaluator gives it.
-/
set_option linter.all false
set_option maxRecDepth 100000
namespace Go.Ev
open Go.Proofs
variable {A : Type}

-- ============================================================ new_ (function 6)
def new__p (n : Nat) (a0 : Int) (k0 : Int → Option A) (k1 : Int → Int → Unit → (List ((List Int) × Int)) → Option A) : Option A :=
  bif (decide (a0 < 0)) then
    k0 1
  else
    bif (decide (a0 > 8)) then
      k0 1
    else
      k1 0 a0 () []

def new__k (n : Nat) (a0 : Int) (k0 : Int → Option A) (k1 : Int → Int → Unit → (List ((List Int) × Int)) → Option A) : Option A := new__p n a0 k0 k1

noncomputable def new__E (n : Nat) : Env A := ⟨tys, gls, [], [], []⟩
theorem new__T {A : Type} (n : Nat) : TyOK Tryd.prog (new__E (A := A) n) := tyOK_of rfl tysB
theorem new__fns (n : Nat) : FnsOK Tryd.prog (new__E (A := A) n) := AllOK.env rfl rfl AllOK.nil
theorem new__eqg (n : Nat) (a0 : Int) (k : AV → List Blk → Option A) : fnK (new__E n) Tryd.f6 [.own, .pure] [.p (.int .i64) a0] [] k = new__p n a0 (fun r0 => k (.tup [.nilp, .p (.int .i64) r0]) []) (fun r0 r1 r2 r3 => k (.tup [.ptr 0 [], .p (.int .i64) r0]) [.var 57 kT56 (.pr (.p (.int .i64) r1) (.pr (.mp 1) (.p .unit r2))), .map kA32u8 (.int .u16) r3]) := by kernel_rfl
theorem new__eq (n : Nat) (a0 : Int) (k : AV → List Blk → Option A) : fnK (new__E n) Tryd.f6 [.own, .pure] [.p (.int .i64) a0] [] k = new__k n a0 (fun r0 => k (.tup [.nilp, .p (.int .i64) r0]) []) (fun r0 r1 r2 r3 => k (.tup [.ptr 0 [], .p (.int .i64) r0]) [.var 57 kT56 (.pr (.p (.int .i64) r1) (.pr (.mp 1) (.p .unit r2))), .map kA32u8 (.int .u16) r3]) := new__eqg n a0 k
def new__ent (g : Int → (Int → Option A) → (Int → Int → Unit → (List ((List Int) × Int)) → Option A) → Option A) : Entry A := pureE fun args k => args1 args (.int .i64) fun a0 => g a0 (fun r0 => k (.tup [.nilp, .p (.int .i64) r0]) []) (fun r0 r1 r2 r3 => k (.tup [.ptr 0 [], .p (.int .i64) r0]) [.var 57 kT56 (.pr (.p (.int .i64) r1) (.pr (.mp 1) (.p .unit r2))), .map kA32u8 (.int .u16) r3])
theorem new__lo (n : Nat) : ∀ c, Tryd.f6.body = some c → ∀ q ∈ loopsOf 0 c, ∀ L, (new__E (A := A) n).lps.lookup q.1 = some L → LoopOK Tryd.prog gls q.2 L :=
  lo_body (E := new__E n) (by kernel_rfl : Tryd.f6.body = some (bodyOf Tryd.f6)) (lo_of (E := new__E n) (by kernel_rfl : loopsOf 0 (bodyOf Tryd.f6) = []) lo_nil)
theorem new__ok (n : Nat) : FnOK Tryd.prog gls 6 (new__ent (A := A) (new__k n)) :=
  FnOK.of (new__T n) (new__fns n) follows ⟨Tryd.func6, by kernel_rfl⟩ (new__lo n) (rm := [.own, .pure]) fun args k out h => by
    obtain ⟨a0, e, h1⟩ := args1_sound h
    subst e; rw [new__eq]; exact h1

end Go.Ev
end

section
/-
  FUNCTION 9: printed by a program of our own (wip/gen/st.py). '(*masthead/scan.Scan).Next', in continuation form; the evaluator gives it.
-/
set_option linter.all false
set_option maxRecDepth 100000
namespace Go.Ev
open Go.Proofs
variable {A : Type}

-- ============================================================ next (function 9)
def next_b0 (g_tz16 : Int → (Int → Option A) → Option A) (n : Nat) (t20 : (List (List Int))) (t21 : Int) (sa : Int) (sbb : Unit) (sba : (List ((List Int) × Int))) (t4 : (Int × ((List Int) × (Int × Unit)))) (k0 : (Int × ((List Int) × (Int × Unit))) → Option A) (k1 : Option A) (r : Int → Option A) (t22 : Int) : Option A :=
  bif (decide (t22 < t21)) then
    if 0 ≤ t22 then
      (t20[(Int.toNat t22)]?).bind fun y1 =>
      bif (!(mget kA32u8 sba y1).isSome) then
        k0 (3, (y1, (0, ())))
      else
        bif (((mget kA32u8 sba y1).getD 0) != 0) then
          g_tz16 ((mget kA32u8 sba y1).getD 0) fun r2 =>
          k0 (5, (y1, (r2, ())))
        else
          r (IntKind.wrap .i64 (t22 + 1))
    else none
  else
    k1

def next_l0 (g_tz16 : Int → (Int → Option A) → Option A) (n : Nat) (t20 : (List (List Int))) (t21 : Int) (sa : Int) (sbb : Unit) (sba : (List ((List Int) × Int))) (t4 : (Int × ((List Int) × (Int × Unit)))) (k0 : (Int × ((List Int) × (Int × Unit))) → Option A) (k1 : Option A) : Nat → Int → Option A
  | 0 => fun _ => none
  | f + 1 => next_b0 g_tz16 n t20 t21 sa sbb sba t4 k0 k1 (next_l0 g_tz16 n t20 t21 sa sbb sba t4 k0 k1 f)

def next_p (g_tz16 : Int → (Int → Option A) → Option A) (n : Nat) (line : (List (List Int))) (sa : Int) (sbb : Unit) (sba : (List ((List Int) × Int))) (k : (Int × ((List Int) × (Int × Unit))) → Bool → Int → Unit → (List ((List Int) × Int)) → Option A) : Option A :=
  bif (sa == 0) then
    k (0, ((List.replicate 32 (0 : Int)), (0, ()))) false sa sbb sba
  else
    if 0 ≤ (imin 1 (line.length : Int)) then
      if (imin 1 (line.length : Int)) ≤ (line.length : Int) then
        next_l0 g_tz16 n ((line.drop (Int.toNat (imin 1 (line.length : Int)))).take (line.length - (Int.toNat (imin 1 (line.length : Int))))) (((line.drop (Int.toNat (imin 1 (line.length : Int)))).take (line.length - (Int.toNat (imin 1 (line.length : Int))))).length : Int) sa sbb sba (0, ((List.replicate 32 (0 : Int)), (0, ()))) (fun y3 =>
          k y3 true sa sbb sba) (
          k (0, ((List.replicate 32 (0 : Int)), (0, ()))) false sa sbb sba) n 0
      else none
    else none

def next_k (n : Nat) (line : (List (List Int))) (sa : Int) (sbb : Unit) (sba : (List ((List Int) × Int))) (k : (Int × ((List Int) × (Int × Unit))) → Bool → Int → Unit → (List ((List Int) × Int)) → Option A) : Option A := next_p (tz16_k n) n line sa sbb sba k

noncomputable def next_c0 : Code := codeAt [1, 1, 0, 1, 0, 0] (bodyOf Tryd.f9)
def next_d0 : List Nat := [1, 5, 7, 8, 9, 10, 11, 12, 13, 14, 16, 17, 18, 19, 23, 24, 25, 26, 27, 28, 29, 30, 31, 32, 33, 34, 35, 36, 37, 38, 39, 40, 41, 42, 43, 44, 45, 46, 47]
def next_y0 : List Nat := [0, 1, 2, 3, 6, 7, 8, 9, 10, 11, 12, 13, 14, 15, 16, 17, 18, 19, 20, 21, 22, 23, 24, 25, 26, 27, 28, 29, 30, 31, 32, 33, 34, 35, 36, 37, 38, 39, 40, 41, 42, 43, 44, 45, 46, 47, 48]
def next_sh0 : Shape := ⟨[(.ptr 0), .any, .any, .any, (.ptr 2), .any, .any, .any, .any, .any, .any, .any, .any, .any, .any, .any, .any, .any, .any, .any, (.p (.sl kA32u8)), (.p (.int .i64)), (.p (.int .i64)), .any, .any, .any, .any, .any, .any, .any, .any, .any, .any, .any, .any, .any, .any, .any, .any, .any, .any, .any, .any, .any, .any, .any, .any, .any, .any], [(.var 57 kT56 (.pr (.p (.int .i64)) (.pr (.mp 1) (.p .unit)))), (.map kA32u8 (.int .u16)), (.var 34 kT33 (.p kT33))], 2⟩
def next_x0_0 (t20 : (List (List Int))) (t21 : Int) (sa : Int) (sbb : Unit) (sba : (List ((List Int) × Int))) (t4 : (Int × ((List Int) × (Int × Unit)))) (z4 : (Int × ((List Int) × (Int × Unit)))) : St := ⟨[.any, .any, .any, .any, .ptr 2 [], .p .bool true, .any, .any, .any, .any, .any, .any, .any, .any, .any, .any, .any, .any, .any, .any, .any, .any, .any, .any, .any, .any, .any, .any, .any, .any, .any, .any, .any, .any, .any, .any, .any, .any, .any, .any, .any, .any, .any, .any, .any, .any, .any, .any, .any], [.var 57 kT56 (.pr (.p (.int .i64) sa) (.pr (.mp 1) (.p .unit sbb))), .map kA32u8 (.int .u16) sba, .var 34 kT33 (.p kT33 z4)], 2⟩
def next_x0_1 (t20 : (List (List Int))) (t21 : Int) (sa : Int) (sbb : Unit) (sba : (List ((List Int) × Int))) (t4 : (Int × ((List Int) × (Int × Unit)))) : St := ⟨[.any, .any, .any, .any, .ptr 2 [], .any, .any, .any, .any, .any, .any, .any, .any, .any, .any, .any, .any, .any, .any, .any, .any, .any, .any, .any, .any, .any, .any, .any, .any, .any, .any, .any, .any, .any, .any, .any, .any, .any, .any, .any, .any, .any, .any, .any, .any, .any, .any, .any, .any], [.var 57 kT56 (.pr (.p (.int .i64) sa) (.pr (.mp 1) (.p .unit sbb))), .map kA32u8 (.int .u16) sba, .var 34 kT33 (.p kT33 t4)], 2⟩
def next_g0 (g_tz16 : Int → (Int → Option A) → Option A) (n : Nat) (d : next_sh0.den) (k : Ex → St → Option A) : Option A :=
  next_l0 g_tz16 n d.1.2.2.2.2.2.2.2.2.2.2.2.2.2.2.2.2.2.2.2.2.1 d.1.2.2.2.2.2.2.2.2.2.2.2.2.2.2.2.2.2.2.2.2.2.1 d.2.1.1 d.2.1.2.2 d.2.2.1 d.2.2.2.1 (fun z4 => k .ret (next_x0_0 d.1.2.2.2.2.2.2.2.2.2.2.2.2.2.2.2.2.2.2.2.2.1 d.1.2.2.2.2.2.2.2.2.2.2.2.2.2.2.2.2.2.2.2.2.2.1 d.2.1.1 d.2.1.2.2 d.2.2.1 d.2.2.2.1 z4)) (k (.exit 0) (next_x0_1 d.1.2.2.2.2.2.2.2.2.2.2.2.2.2.2.2.2.2.2.2.2.1 d.1.2.2.2.2.2.2.2.2.2.2.2.2.2.2.2.2.2.2.2.2.2.1 d.2.1.1 d.2.1.2.2 d.2.2.1 d.2.2.2.1)) n d.1.2.2.2.2.2.2.2.2.2.2.2.2.2.2.2.2.2.2.2.2.2.2.1
noncomputable def next_E (g_tz16 : Int → (Int → Option A) → Option A) (n : Nat) : Env A := ⟨tys, gls, [(16, tz16_ent g_tz16)], [(0, loopE next_d0 next_sh0 (next_g0 g_tz16 n))], []⟩
theorem next_T (g_tz16 : Int → (Int → Option A) → Option A) (n : Nat) : TyOK Tryd.prog (next_E g_tz16 n) := tyOK_of rfl tysB
theorem next_fns (n : Nat) : FnsOK Tryd.prog (next_E (A := A) (tz16_k n) n) := AllOK.env rfl rfl (AllOK.cons (tz16_ok n) AllOK.nil)
noncomputable def next_LK0 (g_tz16 : Int → (Int → Option A) → Option A) (n : Nat) (t20 : (List (List Int))) (t21 : Int) (sa : Int) (sbb : Unit) (sba : (List ((List Int) × Int))) (t4 : (Int × ((List Int) × (Int × Unit)))) (k : Ex → St → Option A) (f : Nat) (t22 : Int) : Option A := loopK (codeK (next_E g_tz16 n) 1 next_c0) next_d0 next_y0 f (⟨[.ptr 0 [], .any, .any, .any, .ptr 2 [], .any, .any, .any, .any, .any, .any, .any, .any, .any, .any, .any, .any, .any, .any, .any, .p (.sl kA32u8) t20, .p (.int .i64) t21, .p (.int .i64) t22, .any, .any, .any, .any, .any, .any, .any, .any, .any, .any, .any, .any, .any, .any, .any, .any, .any, .any, .any, .any, .any, .any, .any, .any, .any, .any], [.var 57 kT56 (.pr (.p (.int .i64) sa) (.pr (.mp 1) (.p .unit sbb))), .map kA32u8 (.int .u16) sba, .var 34 kT33 (.p kT33 t4)], 2⟩) k
theorem next_st0 (g_tz16 : Int → (Int → Option A) → Option A) (n f : Nat) (t20 : (List (List Int))) (t21 : Int) (sa : Int) (sbb : Unit) (sba : (List ((List Int) × Int))) (t4 : (Int × ((List Int) × (Int × Unit)))) (k : Ex → St → Option A) (t22 : Int) : next_LK0 g_tz16 n t20 t21 sa sbb sba t4 k (f + 1) t22 = next_b0 g_tz16 n t20 t21 sa sbb sba t4 (fun z4 => k .ret (next_x0_0 t20 t21 sa sbb sba t4 z4)) (k (.exit 0) (next_x0_1 t20 t21 sa sbb sba t4)) (next_LK0 g_tz16 n t20 t21 sa sbb sba t4 k f) t22 := by kernel_rfl
theorem next_le0 (g_tz16 : Int → (Int → Option A) → Option A) (n : Nat) (t20 : (List (List Int))) (t21 : Int) (sa : Int) (sbb : Unit) (sba : (List ((List Int) × Int))) (t4 : (Int × ((List Int) × (Int × Unit)))) (k : Ex → St → Option A) : ∀ (f : Nat) (t22 : Int), next_LK0 g_tz16 n t20 t21 sa sbb sba t4 k f t22 = next_l0 g_tz16 n t20 t21 sa sbb sba t4 (fun z4 => k .ret (next_x0_0 t20 t21 sa sbb sba t4 z4)) (k (.exit 0) (next_x0_1 t20 t21 sa sbb sba t4)) f t22 := by
  intro f
  induction f with
  | zero => intros; kernel_rfl
  | succ f ih => intro t22; exact (next_st0 g_tz16 n f t20 t21 sa sbb sba t4 k t22).trans ((congrArg (fun r => next_b0 g_tz16 n t20 t21 sa sbb sba t4 (fun z4 => k .ret (next_x0_0 t20 t21 sa sbb sba t4 z4)) (k (.exit 0) (next_x0_1 t20 t21 sa sbb sba t4)) r t22) (funext fun t22 => ih t22)).trans (by kernel_rfl))
theorem next_lo0 (n : Nat) : LoopOK Tryd.prog gls next_c0 (loopE next_d0 next_sh0 (next_g0 (A := A) (tz16_k n) n)) :=
  LoopOK.of (next_T (tz16_k n) n) (next_fns n) follows (j := 1) (n := n) (xdead := next_y0) (lo_of (by kernel_rfl : loopsOf 1 next_c0 = []) lo_nil) fun d k => Eq.trans (by kernel_rfl) (next_le0 (tz16_k n) n d.1.2.2.2.2.2.2.2.2.2.2.2.2.2.2.2.2.2.2.2.2.1 d.1.2.2.2.2.2.2.2.2.2.2.2.2.2.2.2.2.2.2.2.2.2.1 d.2.1.1 d.2.1.2.2 d.2.2.1 d.2.2.2.1 k n d.1.2.2.2.2.2.2.2.2.2.2.2.2.2.2.2.2.2.2.2.2.2.2.1)
theorem next_eqg (g_tz16 : Int → (Int → Option A) → Option A) (n : Nat) (line : (List (List Int))) (sa : Int) (sbb : Unit) (sba : (List ((List Int) × Int))) (k : AV → List Blk → Option A) : fnK (next_E g_tz16 n) Tryd.f9 [.pure, .pure] [.ptr 0 [], .p (.sl kA32u8) line] [.var 57 kT56 (.pr (.p (.int .i64) sa) (.pr (.mp 1) (.p .unit sbb))), .map kA32u8 (.int .u16) sba] k = next_p g_tz16 n line sa sbb sba (fun r0 r1 r2 r3 r4 => k (.tup [.p kT33 r0, .p .bool r1]) [.var 57 kT56 (.pr (.p (.int .i64) r2) (.pr (.mp 1) (.p .unit r3))), .map kA32u8 (.int .u16) r4]) := by kernel_rfl
theorem next_eq (n : Nat) (line : (List (List Int))) (sa : Int) (sbb : Unit) (sba : (List ((List Int) × Int))) (k : AV → List Blk → Option A) : fnK (next_E (tz16_k n) n) Tryd.f9 [.pure, .pure] [.ptr 0 [], .p (.sl kA32u8) line] [.var 57 kT56 (.pr (.p (.int .i64) sa) (.pr (.mp 1) (.p .unit sbb))), .map kA32u8 (.int .u16) sba] k = next_k n line sa sbb sba (fun r0 r1 r2 r3 r4 => k (.tup [.p kT33 r0, .p .bool r1]) [.var 57 kT56 (.pr (.p (.int .i64) r2) (.pr (.mp 1) (.p .unit r3))), .map kA32u8 (.int .u16) r4]) := next_eqg (tz16_k n) n line sa sbb sba k
def next_sh : Shape := ⟨[(.ptr 0), (.p (.sl kA32u8))], [(.var 57 kT56 (.pr (.p (.int .i64)) (.pr (.mp 1) (.p .unit)))), (.map kA32u8 (.int .u16))], 2⟩
def next_ent (g : (List (List Int)) → Int → Unit → (List ((List Int) × Int)) → ((Int × ((List Int) × (Int × Unit))) → Bool → Int → Unit → (List ((List Int) × Int)) → Option A) → Option A) : Entry A := ownE [true, false] next_sh fun d k => g d.1.2.1 d.2.1.1 d.2.1.2.2 d.2.2.1 (fun r0 r1 r2 r3 r4 => k (.tup [.p kT33 r0, .p .bool r1]) [.var 57 kT56 (.pr (.p (.int .i64) r2) (.pr (.mp 1) (.p .unit r3))), .map kA32u8 (.int .u16) r4])
theorem next_lo (n : Nat) : ∀ c, Tryd.f9.body = some c → ∀ q ∈ loopsOf 0 c, ∀ L, (next_E (A := A) (tz16_k n) n).lps.lookup q.1 = some L → LoopOK Tryd.prog gls q.2 L :=
  lo_body (E := next_E (tz16_k n) n) (by kernel_rfl : Tryd.f9.body = some (bodyOf Tryd.f9)) (lo_of (E := next_E (tz16_k n) n) (by kernel_rfl : loopsOf 0 (bodyOf Tryd.f9) = [(0, next_c0)]) (lo_cons rfl (next_lo0 n) lo_nil))
theorem next_ok (n : Nat) : FnOK Tryd.prog gls 9 (next_ent (A := A) (next_k n)) :=
  FnOK.ofOwn (next_T (tz16_k n) n) (next_fns n) follows ⟨Tryd.func9, by kernel_rfl⟩ (next_lo n) (rm := [.pure, .pure]) (S := next_sh) fun d k => Eq.trans (by kernel_rfl) (next_eq n d.1.2.1 d.2.1.1 d.2.1.2.2 d.2.2.1 k)

end Go.Ev
end

section
/-
  FUNCTION 11: printed by a program of our own (wip/gen/st.py). '(*masthead/scan.Scan).Filter', in continuation form; the evaluator gives it.
-/
set_option linter.all false
set_option maxRecDepth 100000
namespace Go.Ev
open Go.Proofs
variable {A : Type}

-- ============================================================ filter (function 11)
def filter_b0 (n : Nat) (t22 : (List Int)) (t23 : Int) (sa : Int) (sbb : Unit) (sba : (List ((List Int) × Int))) (x : (List Int)) (k0 : Int → Option A) (r : Int → Int → Option A) (set : Int) (t24 : Int) : Option A :=
  bif (decide (t24 < t23)) then
    if 0 ≤ t24 then
      (t22[(Int.toNat t24)]?).bind fun y1 =>
      bif (decide (y1 ≥ 0)) then
        bif (decide (y1 < sa)) then
          if y1 < 0 then none else
          r (ior .u16 set (shl .u16 1 y1)) (IntKind.wrap .i64 (t24 + 1))
        else
          r set (IntKind.wrap .i64 (t24 + 1))
      else
        r set (IntKind.wrap .i64 (t24 + 1))
    else none
  else
    k0 set

def filter_l0 (n : Nat) (t22 : (List Int)) (t23 : Int) (sa : Int) (sbb : Unit) (sba : (List ((List Int) × Int))) (x : (List Int)) (k0 : Int → Option A) : Nat → Int → Int → Option A
  | 0 => fun _ _ => none
  | f + 1 => filter_b0 n t22 t23 sa sbb sba x k0 (filter_l0 n t22 t23 sa sbb sba x k0 f)

def filter_p (n : Nat) (x : (List Int)) (items : (List Int)) (sa : Int) (sbb : Unit) (sba : (List ((List Int) × Int))) (k : Int → Int → Unit → (List ((List Int) × Int)) → Option A) : Option A :=
  bif (mget kA32u8 sba x).isSome then
    k 7 sa sbb sba
  else
    filter_l0 n items (items.length : Int) sa sbb sba x (fun y2 =>
      k 0 sa sbb (mset kA32u8 sba x y2)) n 0 0

def filter_k (n : Nat) (x : (List Int)) (items : (List Int)) (sa : Int) (sbb : Unit) (sba : (List ((List Int) × Int))) (k : Int → Int → Unit → (List ((List Int) × Int)) → Option A) : Option A := filter_p n x items sa sbb sba k

noncomputable def filter_c0 : Code := codeAt [1, 1, 1, 0, 1, 0, 0] (bodyOf Tryd.f11)
def filter_d0 : List Nat := [1, 2, 6, 7, 8, 11, 12, 13, 14, 15, 16, 17, 18, 19, 20, 21, 25, 26, 27, 28, 29, 30, 31, 32, 33, 34, 35, 36, 37, 38, 39, 40, 41, 42]
def filter_y0 : List Nat := [1, 2, 3, 5, 6, 7, 8, 10, 11, 12, 13, 14, 15, 16, 17, 18, 19, 20, 21, 22, 23, 24, 25, 26, 27, 28, 29, 30, 31, 32, 33, 34, 35, 36, 37, 38, 39, 40, 41, 42, 43, 44, 45, 46, 47, 48]
def filter_sh0 : Shape := ⟨[(.ptr 0), .any, .any, .any, (.ptr 2), .any, .any, .any, .any, (.p (.int .u16)), .any, .any, .any, .any, .any, .any, .any, .any, .any, .any, .any, .any, (.p (.sl (.int .i64))), (.p (.int .i64)), (.p (.int .i64)), .any, .any, .any, .any, .any, .any, .any, .any, .any, .any, .any, .any, .any, .any, .any, .any, .any, .any, .any, .any, .any, .any, .any, .any], [(.var 57 kT56 (.pr (.p (.int .i64)) (.pr (.mp 1) (.p .unit)))), (.map kA32u8 (.int .u16)), (.var 32 kA32u8 (.p kA32u8))], 2⟩
def filter_x0_0 (t22 : (List Int)) (t23 : Int) (sa : Int) (sbb : Unit) (sba : (List ((List Int) × Int))) (x : (List Int)) (z0 : Int) : St := ⟨[.ptr 0 [], .any, .any, .any, .ptr 2 [], .any, .any, .any, .any, .p (.int .u16) z0, .any, .any, .any, .any, .any, .any, .any, .any, .any, .any, .any, .any, .any, .any, .any, .any, .any, .any, .any, .any, .any, .any, .any, .any, .any, .any, .any, .any, .any, .any, .any, .any, .any, .any, .any, .any, .any, .any, .any], [.var 57 kT56 (.pr (.p (.int .i64) sa) (.pr (.mp 1) (.p .unit sbb))), .map kA32u8 (.int .u16) sba, .var 32 kA32u8 (.p kA32u8 x)], 2⟩
def filter_g0 (n : Nat) (d : filter_sh0.den) (k : Ex → St → Option A) : Option A :=
  filter_l0 n d.1.2.2.2.2.2.2.2.2.2.2.2.2.2.2.2.2.2.2.2.2.2.2.1 d.1.2.2.2.2.2.2.2.2.2.2.2.2.2.2.2.2.2.2.2.2.2.2.2.1 d.2.1.1 d.2.1.2.2 d.2.2.1 d.2.2.2.1 (fun z0 => k (.exit 0) (filter_x0_0 d.1.2.2.2.2.2.2.2.2.2.2.2.2.2.2.2.2.2.2.2.2.2.2.1 d.1.2.2.2.2.2.2.2.2.2.2.2.2.2.2.2.2.2.2.2.2.2.2.2.1 d.2.1.1 d.2.1.2.2 d.2.2.1 d.2.2.2.1 z0)) n d.1.2.2.2.2.2.2.2.2.2.1 d.1.2.2.2.2.2.2.2.2.2.2.2.2.2.2.2.2.2.2.2.2.2.2.2.2.1
noncomputable def filter_E (n : Nat) : Env A := ⟨tys, gls, [], [(0, loopE filter_d0 filter_sh0 (filter_g0 n))], []⟩
theorem filter_T {A : Type} (n : Nat) : TyOK Tryd.prog (filter_E (A := A) n) := tyOK_of rfl tysB
theorem filter_fns (n : Nat) : FnsOK Tryd.prog (filter_E (A := A) n) := AllOK.env rfl rfl AllOK.nil
noncomputable def filter_LK0 (n : Nat) (t22 : (List Int)) (t23 : Int) (sa : Int) (sbb : Unit) (sba : (List ((List Int) × Int))) (x : (List Int)) (k : Ex → St → Option A) (f : Nat) (set : Int) (t24 : Int) : Option A := loopK (codeK (filter_E n) 1 filter_c0) filter_d0 filter_y0 f (⟨[.ptr 0 [], .any, .any, .any, .ptr 2 [], .any, .any, .any, .any, .p (.int .u16) set, .any, .any, .any, .any, .any, .any, .any, .any, .any, .any, .any, .any, .p (.sl (.int .i64)) t22, .p (.int .i64) t23, .p (.int .i64) t24, .any, .any, .any, .any, .any, .any, .any, .any, .any, .any, .any, .any, .any, .any, .any, .any, .any, .any, .any, .any, .any, .any, .any, .any], [.var 57 kT56 (.pr (.p (.int .i64) sa) (.pr (.mp 1) (.p .unit sbb))), .map kA32u8 (.int .u16) sba, .var 32 kA32u8 (.p kA32u8 x)], 2⟩) k
theorem filter_st0 (n f : Nat) (t22 : (List Int)) (t23 : Int) (sa : Int) (sbb : Unit) (sba : (List ((List Int) × Int))) (x : (List Int)) (k : Ex → St → Option A) (set : Int) (t24 : Int) : filter_LK0 n t22 t23 sa sbb sba x k (f + 1) set t24 = filter_b0 n t22 t23 sa sbb sba x (fun z0 => k (.exit 0) (filter_x0_0 t22 t23 sa sbb sba x z0)) (filter_LK0 n t22 t23 sa sbb sba x k f) set t24 := by kernel_rfl
theorem filter_le0 (n : Nat) (t22 : (List Int)) (t23 : Int) (sa : Int) (sbb : Unit) (sba : (List ((List Int) × Int))) (x : (List Int)) (k : Ex → St → Option A) : ∀ (f : Nat) (set : Int) (t24 : Int), filter_LK0 n t22 t23 sa sbb sba x k f set t24 = filter_l0 n t22 t23 sa sbb sba x (fun z0 => k (.exit 0) (filter_x0_0 t22 t23 sa sbb sba x z0)) f set t24 := by
  intro f
  induction f with
  | zero => intros; kernel_rfl
  | succ f ih => intro set t24; exact (filter_st0 n f t22 t23 sa sbb sba x k set t24).trans ((congrArg (fun r => filter_b0 n t22 t23 sa sbb sba x (fun z0 => k (.exit 0) (filter_x0_0 t22 t23 sa sbb sba x z0)) r set t24) (funext fun set => funext fun t24 => ih set t24)).trans (by kernel_rfl))
theorem filter_lo0 (n : Nat) : LoopOK Tryd.prog gls filter_c0 (loopE filter_d0 filter_sh0 (filter_g0 (A := A) n)) :=
  LoopOK.of (filter_T n) (filter_fns n) follows (j := 1) (n := n) (xdead := filter_y0) (lo_of (by kernel_rfl : loopsOf 1 filter_c0 = []) lo_nil) fun d k => Eq.trans (by kernel_rfl) (filter_le0 n d.1.2.2.2.2.2.2.2.2.2.2.2.2.2.2.2.2.2.2.2.2.2.2.1 d.1.2.2.2.2.2.2.2.2.2.2.2.2.2.2.2.2.2.2.2.2.2.2.2.1 d.2.1.1 d.2.1.2.2 d.2.2.1 d.2.2.2.1 k n d.1.2.2.2.2.2.2.2.2.2.1 d.1.2.2.2.2.2.2.2.2.2.2.2.2.2.2.2.2.2.2.2.2.2.2.2.2.1)
theorem filter_eqg (n : Nat) (x : (List Int)) (items : (List Int)) (sa : Int) (sbb : Unit) (sba : (List ((List Int) × Int))) (k : AV → List Blk → Option A) : fnK (filter_E n) Tryd.f11 [.pure] [.ptr 0 [], .p kA32u8 x, .p (.sl (.int .i64)) items] [.var 57 kT56 (.pr (.p (.int .i64) sa) (.pr (.mp 1) (.p .unit sbb))), .map kA32u8 (.int .u16) sba] k = filter_p n x items sa sbb sba (fun r0 r1 r2 r3 => k (.p (.int .i64) r0) [.var 57 kT56 (.pr (.p (.int .i64) r1) (.pr (.mp 1) (.p .unit r2))), .map kA32u8 (.int .u16) r3]) := by kernel_rfl
theorem filter_eq (n : Nat) (x : (List Int)) (items : (List Int)) (sa : Int) (sbb : Unit) (sba : (List ((List Int) × Int))) (k : AV → List Blk → Option A) : fnK (filter_E n) Tryd.f11 [.pure] [.ptr 0 [], .p kA32u8 x, .p (.sl (.int .i64)) items] [.var 57 kT56 (.pr (.p (.int .i64) sa) (.pr (.mp 1) (.p .unit sbb))), .map kA32u8 (.int .u16) sba] k = filter_k n x items sa sbb sba (fun r0 r1 r2 r3 => k (.p (.int .i64) r0) [.var 57 kT56 (.pr (.p (.int .i64) r1) (.pr (.mp 1) (.p .unit r2))), .map kA32u8 (.int .u16) r3]) := filter_eqg n x items sa sbb sba k
def filter_sh : Shape := ⟨[(.ptr 0), (.p kA32u8), (.p (.sl (.int .i64)))], [(.var 57 kT56 (.pr (.p (.int .i64)) (.pr (.mp 1) (.p .unit)))), (.map kA32u8 (.int .u16))], 2⟩
def filter_ent (g : (List Int) → (List Int) → Int → Unit → (List ((List Int) × Int)) → (Int → Int → Unit → (List ((List Int) × Int)) → Option A) → Option A) : Entry A := ownE [true, false, false] filter_sh fun d k => g d.1.2.1 d.1.2.2.1 d.2.1.1 d.2.1.2.2 d.2.2.1 (fun r0 r1 r2 r3 => k (.p (.int .i64) r0) [.var 57 kT56 (.pr (.p (.int .i64) r1) (.pr (.mp 1) (.p .unit r2))), .map kA32u8 (.int .u16) r3])
theorem filter_lo (n : Nat) : ∀ c, Tryd.f11.body = some c → ∀ q ∈ loopsOf 0 c, ∀ L, (filter_E (A := A) n).lps.lookup q.1 = some L → LoopOK Tryd.prog gls q.2 L :=
  lo_body (E := filter_E n) (by kernel_rfl : Tryd.f11.body = some (bodyOf Tryd.f11)) (lo_of (E := filter_E n) (by kernel_rfl : loopsOf 0 (bodyOf Tryd.f11) = [(0, filter_c0)]) (lo_cons rfl (filter_lo0 n) lo_nil))
theorem filter_ok (n : Nat) : FnOK Tryd.prog gls 11 (filter_ent (A := A) (filter_k n)) :=
  FnOK.ofOwn (filter_T n) (filter_fns n) follows ⟨Tryd.func11, by kernel_rfl⟩ (filter_lo n) (rm := [.pure]) (S := filter_sh) fun d k => Eq.trans (by kernel_rfl) (filter_eq n d.1.2.1 d.1.2.2.1 d.2.1.1 d.2.1.2.2 d.2.2.1 k)

end Go.Ev
end

section
/-
  FUNCTION 12: printed by a program of our own (wip/gen/st.py). '(*masthead/scan.Scan).Proof', in continuation form; the evaluator gives it.
-/
set_option linter.all false
set_option maxRecDepth 100000
namespace Go.Ev
open Go.Proofs
variable {A : Type}

-- ============================================================ proof (function 12)
def proof_p (n : Nat) (x : (List Int)) (item : Int) (sa : Int) (sbb : Unit) (sba : (List ((List Int) × Int))) (k : Int → Int → Unit → (List ((List Int) × Int)) → Option A) : Option A :=
  bif (decide (item < 0)) then
    k 6 sa sbb sba
  else
    bif (decide (item ≥ sa)) then
      k 6 sa sbb sba
    else
      if item < 0 then none else
      bif ((iand .u16 (shr .u16 ((mget kA32u8 sba x).getD 0) item) 1) == 0) then
        k 6 sa sbb sba
      else
        if item < 0 then none else
        k 0 sa sbb (mset kA32u8 (mset kA32u8 sba x ((mget kA32u8 sba x).getD 0)) x (iandNot .u16 ((mget kA32u8 sba x).getD 0) (shl .u16 1 item)))

def proof_k (n : Nat) (x : (List Int)) (item : Int) (sa : Int) (sbb : Unit) (sba : (List ((List Int) × Int))) (k : Int → Int → Unit → (List ((List Int) × Int)) → Option A) : Option A := proof_p n x item sa sbb sba k

noncomputable def proof_E (n : Nat) : Env A := ⟨tys, gls, [], [], []⟩
theorem proof_T {A : Type} (n : Nat) : TyOK Tryd.prog (proof_E (A := A) n) := tyOK_of rfl tysB
theorem proof_fns (n : Nat) : FnsOK Tryd.prog (proof_E (A := A) n) := AllOK.env rfl rfl AllOK.nil
theorem proof_eqg (n : Nat) (x : (List Int)) (item : Int) (sa : Int) (sbb : Unit) (sba : (List ((List Int) × Int))) (k : AV → List Blk → Option A) : fnK (proof_E n) Tryd.f12 [.pure] [.ptr 0 [], .p kA32u8 x, .p (.int .i64) item] [.var 57 kT56 (.pr (.p (.int .i64) sa) (.pr (.mp 1) (.p .unit sbb))), .map kA32u8 (.int .u16) sba] k = proof_p n x item sa sbb sba (fun r0 r1 r2 r3 => k (.p (.int .i64) r0) [.var 57 kT56 (.pr (.p (.int .i64) r1) (.pr (.mp 1) (.p .unit r2))), .map kA32u8 (.int .u16) r3]) := by kernel_rfl
theorem proof_eq (n : Nat) (x : (List Int)) (item : Int) (sa : Int) (sbb : Unit) (sba : (List ((List Int) × Int))) (k : AV → List Blk → Option A) : fnK (proof_E n) Tryd.f12 [.pure] [.ptr 0 [], .p kA32u8 x, .p (.int .i64) item] [.var 57 kT56 (.pr (.p (.int .i64) sa) (.pr (.mp 1) (.p .unit sbb))), .map kA32u8 (.int .u16) sba] k = proof_k n x item sa sbb sba (fun r0 r1 r2 r3 => k (.p (.int .i64) r0) [.var 57 kT56 (.pr (.p (.int .i64) r1) (.pr (.mp 1) (.p .unit r2))), .map kA32u8 (.int .u16) r3]) := proof_eqg n x item sa sbb sba k
def proof_sh : Shape := ⟨[(.ptr 0), (.p kA32u8), (.p (.int .i64))], [(.var 57 kT56 (.pr (.p (.int .i64)) (.pr (.mp 1) (.p .unit)))), (.map kA32u8 (.int .u16))], 2⟩
def proof_ent (g : (List Int) → Int → Int → Unit → (List ((List Int) × Int)) → (Int → Int → Unit → (List ((List Int) × Int)) → Option A) → Option A) : Entry A := ownE [true, false, false] proof_sh fun d k => g d.1.2.1 d.1.2.2.1 d.2.1.1 d.2.1.2.2 d.2.2.1 (fun r0 r1 r2 r3 => k (.p (.int .i64) r0) [.var 57 kT56 (.pr (.p (.int .i64) r1) (.pr (.mp 1) (.p .unit r2))), .map kA32u8 (.int .u16) r3])
theorem proof_lo (n : Nat) : ∀ c, Tryd.f12.body = some c → ∀ q ∈ loopsOf 0 c, ∀ L, (proof_E (A := A) n).lps.lookup q.1 = some L → LoopOK Tryd.prog gls q.2 L :=
  lo_body (E := proof_E n) (by kernel_rfl : Tryd.f12.body = some (bodyOf Tryd.f12)) (lo_of (E := proof_E n) (by kernel_rfl : loopsOf 0 (bodyOf Tryd.f12) = []) lo_nil)
theorem proof_ok (n : Nat) : FnOK Tryd.prog gls 12 (proof_ent (A := A) (proof_k n)) :=
  FnOK.ofOwn (proof_T n) (proof_fns n) follows ⟨Tryd.func12, by kernel_rfl⟩ (proof_lo n) (rm := [.pure]) (S := proof_sh) fun d k => Eq.trans (by kernel_rfl) (proof_eq n d.1.2.1 d.1.2.2.1 d.2.1.1 d.2.1.2.2 d.2.2.1 k)

end Go.Ev
end

section
/-
  FUNCTION 7: printed by a program of our own (wip/gen/st.py). 'masthead/mastheadlaw25.awake', in continuation form; the evaluator gives it.
-/
set_option linter.all false
set_option maxRecDepth 100000
namespace Go.Ev
open Go.Proofs
variable {A : Type}

-- ============================================================ awake (function 7)
def awake_p (g_new_ : Int → (Int → Option A) → (Int → Int → Unit → (List ((List Int) × Int)) → Option A) → Option A) (g_next : (List (List Int)) → Int → Unit → (List ((List Int) × Int)) → ((Int × ((List Int) × (Int × Unit))) → Bool → Int → Unit → (List ((List Int) × Int)) → Option A) → Option A) (g_filter : (List Int) → (List Int) → Int → Unit → (List ((List Int) × Int)) → (Int → Int → Unit → (List ((List Int) × Int)) → Option A) → Option A) (g_proof : (List Int) → Int → Int → Unit → (List ((List Int) × Int)) → (Int → Int → Unit → (List ((List Int) × Int)) → Option A) → Option A) (n : Nat) (k : Bool → Option A) : Option A :=
  g_new_ 1 (fun r1 =>
    bif (r1 != 0) then
      k false
    else
      k false) (fun r2 r3 r4 r5 =>
    bif (r2 != 0) then
      k false
    else
      g_next [((List.replicate 32 (0 : Int)).set 0 1), ((List.replicate 32 (0 : Int)).set 0 2)] r3 r4 r5 fun r6 r7 r8 r9 r10 =>
      ([((List.replicate 32 (0 : Int)).set 0 1), ((List.replicate 32 (0 : Int)).set 0 2)][1]?).bind fun y11 =>
      g_filter y11 [0] r8 r9 r10 fun r12 r13 r14 r15 =>
      g_next [((List.replicate 32 (0 : Int)).set 0 1), ((List.replicate 32 (0 : Int)).set 0 2)] r13 r14 r15 fun r16 r17 r18 r19 r20 =>
      ([((List.replicate 32 (0 : Int)).set 0 1), ((List.replicate 32 (0 : Int)).set 0 2)][1]?).bind fun y21 =>
      g_proof y21 0 r18 r19 r20 fun r22 r23 r24 r25 =>
      g_next [((List.replicate 32 (0 : Int)).set 0 1), ((List.replicate 32 (0 : Int)).set 0 2)] r23 r24 r25 fun r26 r27 r28 r29 r30 =>
      bif r7 then
        ([((List.replicate 32 (0 : Int)).set 0 1), ((List.replicate 32 (0 : Int)).set 0 2)][1]?).bind fun y31 =>
        bif (deq kT33 r6 (3, (y31, (0, ())))) then
          bif r17 then
            ([((List.replicate 32 (0 : Int)).set 0 1), ((List.replicate 32 (0 : Int)).set 0 2)][1]?).bind fun y32 =>
            bif (deq kT33 r16 (5, (y32, (0, ())))) then
              k (!r27)
            else
              k false
          else
            k false
        else
          k false
      else
        k false)

def awake_k (n : Nat) (k : Bool → Option A) : Option A := awake_p (new__k n) (next_k n) (filter_k n) (proof_k n) n k

noncomputable def awake_E (g_new_ : Int → (Int → Option A) → (Int → Int → Unit → (List ((List Int) × Int)) → Option A) → Option A) (g_next : (List (List Int)) → Int → Unit → (List ((List Int) × Int)) → ((Int × ((List Int) × (Int × Unit))) → Bool → Int → Unit → (List ((List Int) × Int)) → Option A) → Option A) (g_filter : (List Int) → (List Int) → Int → Unit → (List ((List Int) × Int)) → (Int → Int → Unit → (List ((List Int) × Int)) → Option A) → Option A) (g_proof : (List Int) → Int → Int → Unit → (List ((List Int) × Int)) → (Int → Int → Unit → (List ((List Int) × Int)) → Option A) → Option A) (n : Nat) : Env A := ⟨tys, gls, [(6, new__ent g_new_), (9, next_ent g_next), (11, filter_ent g_filter), (12, proof_ent g_proof)], [], []⟩
theorem awake_T (g_new_ : Int → (Int → Option A) → (Int → Int → Unit → (List ((List Int) × Int)) → Option A) → Option A) (g_next : (List (List Int)) → Int → Unit → (List ((List Int) × Int)) → ((Int × ((List Int) × (Int × Unit))) → Bool → Int → Unit → (List ((List Int) × Int)) → Option A) → Option A) (g_filter : (List Int) → (List Int) → Int → Unit → (List ((List Int) × Int)) → (Int → Int → Unit → (List ((List Int) × Int)) → Option A) → Option A) (g_proof : (List Int) → Int → Int → Unit → (List ((List Int) × Int)) → (Int → Int → Unit → (List ((List Int) × Int)) → Option A) → Option A) (n : Nat) : TyOK Tryd.prog (awake_E g_new_ g_next g_filter g_proof n) := tyOK_of rfl tysB
theorem awake_fns (n : Nat) : FnsOK Tryd.prog (awake_E (A := A) (new__k n) (next_k n) (filter_k n) (proof_k n) n) := AllOK.env rfl rfl (AllOK.cons (new__ok n) (AllOK.cons (next_ok n) (AllOK.cons (filter_ok n) (AllOK.cons (proof_ok n) AllOK.nil))))
theorem awake_eqg (g_new_ : Int → (Int → Option A) → (Int → Int → Unit → (List ((List Int) × Int)) → Option A) → Option A) (g_next : (List (List Int)) → Int → Unit → (List ((List Int) × Int)) → ((Int × ((List Int) × (Int × Unit))) → Bool → Int → Unit → (List ((List Int) × Int)) → Option A) → Option A) (g_filter : (List Int) → (List Int) → Int → Unit → (List ((List Int) × Int)) → (Int → Int → Unit → (List ((List Int) × Int)) → Option A) → Option A) (g_proof : (List Int) → Int → Int → Unit → (List ((List Int) × Int)) → (Int → Int → Unit → (List ((List Int) × Int)) → Option A) → Option A) (n : Nat) (k : AV → List Blk → Option A) : fnK (awake_E g_new_ g_next g_filter g_proof n) Tryd.f7 [.pure] [] [] k = awake_p g_new_ g_next g_filter g_proof n (fun r0 => k (.p .bool r0) []) := by kernel_rfl
theorem awake_eq (n : Nat) (k : AV → List Blk → Option A) : fnK (awake_E (new__k n) (next_k n) (filter_k n) (proof_k n) n) Tryd.f7 [.pure] [] [] k = awake_k n (fun r0 => k (.p .bool r0) []) := awake_eqg (new__k n) (next_k n) (filter_k n) (proof_k n) n k
def awake_ent (g : (Bool → Option A) → Option A) : Entry A := pureE fun args k => args0 args (g (fun r0 => k (.p .bool r0) []))
theorem awake_lo (n : Nat) : ∀ c, Tryd.f7.body = some c → ∀ q ∈ loopsOf 0 c, ∀ L, (awake_E (A := A) (new__k n) (next_k n) (filter_k n) (proof_k n) n).lps.lookup q.1 = some L → LoopOK Tryd.prog gls q.2 L :=
  lo_body (E := awake_E (new__k n) (next_k n) (filter_k n) (proof_k n) n) (by kernel_rfl : Tryd.f7.body = some (bodyOf Tryd.f7)) (lo_of (E := awake_E (new__k n) (next_k n) (filter_k n) (proof_k n) n) (by kernel_rfl : loopsOf 0 (bodyOf Tryd.f7) = []) lo_nil)
theorem awake_ok (n : Nat) : FnOK Tryd.prog gls 7 (awake_ent (A := A) (awake_k n)) :=
  FnOK.of (awake_T (new__k n) (next_k n) (filter_k n) (proof_k n) n) (awake_fns n) follows ⟨Tryd.func7, by kernel_rfl⟩ (awake_lo n) (rm := [.pure]) fun args k out h => by
    obtain ⟨e, h1⟩ := args0_sound h
    subst e; rw [awake_eq]; exact h1

end Go.Ev
end

section
/-
  THE PROGRAM IS AWAKE (scan).
-/
set_option linter.all false
namespace Go.Ev
variable {A : Type}

theorem awake_any (n : Nat) (k : Bool → Option A) : awake_k (n + 30) k = k true := by kernel_rfl

end Go.Ev
end

section
/-
  FUNCTION 10: printed by a program of our own (wip/gen/st.py). '(*masthead/scan.Scan).Done', in continuation form; the evaluator gives it.
-/
set_option linter.all false
set_option maxRecDepth 100000
namespace Go.Ev
open Go.Proofs
variable {A : Type}

-- ============================================================ done (function 10)
def done_p (n : Nat) (x : (List Int)) (sa : Int) (sbb : Unit) (sba : (List ((List Int) × Int))) (k : Bool → Int → Unit → (List ((List Int) × Int)) → Option A) : Option A :=
  bif (mget kA32u8 sba x).isSome then
    k (((mget kA32u8 sba x).getD 0) == 0) sa sbb sba
  else
    k false sa sbb sba

def done_k (n : Nat) (x : (List Int)) (sa : Int) (sbb : Unit) (sba : (List ((List Int) × Int))) (k : Bool → Int → Unit → (List ((List Int) × Int)) → Option A) : Option A := done_p n x sa sbb sba k

noncomputable def done_E (n : Nat) : Env A := ⟨tys, gls, [], [], []⟩
theorem done_T {A : Type} (n : Nat) : TyOK Tryd.prog (done_E (A := A) n) := tyOK_of rfl tysB
theorem done_fns (n : Nat) : FnsOK Tryd.prog (done_E (A := A) n) := AllOK.env rfl rfl AllOK.nil
theorem done_eqg (n : Nat) (x : (List Int)) (sa : Int) (sbb : Unit) (sba : (List ((List Int) × Int))) (k : AV → List Blk → Option A) : fnK (done_E n) Tryd.f10 [.pure] [.ptr 0 [], .p kA32u8 x] [.var 57 kT56 (.pr (.p (.int .i64) sa) (.pr (.mp 1) (.p .unit sbb))), .map kA32u8 (.int .u16) sba] k = done_p n x sa sbb sba (fun r0 r1 r2 r3 => k (.p .bool r0) [.var 57 kT56 (.pr (.p (.int .i64) r1) (.pr (.mp 1) (.p .unit r2))), .map kA32u8 (.int .u16) r3]) := by kernel_rfl
theorem done_eq (n : Nat) (x : (List Int)) (sa : Int) (sbb : Unit) (sba : (List ((List Int) × Int))) (k : AV → List Blk → Option A) : fnK (done_E n) Tryd.f10 [.pure] [.ptr 0 [], .p kA32u8 x] [.var 57 kT56 (.pr (.p (.int .i64) sa) (.pr (.mp 1) (.p .unit sbb))), .map kA32u8 (.int .u16) sba] k = done_k n x sa sbb sba (fun r0 r1 r2 r3 => k (.p .bool r0) [.var 57 kT56 (.pr (.p (.int .i64) r1) (.pr (.mp 1) (.p .unit r2))), .map kA32u8 (.int .u16) r3]) := done_eqg n x sa sbb sba k
def done_sh : Shape := ⟨[(.ptr 0), (.p kA32u8)], [(.var 57 kT56 (.pr (.p (.int .i64)) (.pr (.mp 1) (.p .unit)))), (.map kA32u8 (.int .u16))], 2⟩
def done_ent (g : (List Int) → Int → Unit → (List ((List Int) × Int)) → (Bool → Int → Unit → (List ((List Int) × Int)) → Option A) → Option A) : Entry A := ownE [true, false] done_sh fun d k => g d.1.2.1 d.2.1.1 d.2.1.2.2 d.2.2.1 (fun r0 r1 r2 r3 => k (.p .bool r0) [.var 57 kT56 (.pr (.p (.int .i64) r1) (.pr (.mp 1) (.p .unit r2))), .map kA32u8 (.int .u16) r3])
theorem done_lo (n : Nat) : ∀ c, Tryd.f10.body = some c → ∀ q ∈ loopsOf 0 c, ∀ L, (done_E (A := A) n).lps.lookup q.1 = some L → LoopOK Tryd.prog gls q.2 L :=
  lo_body (E := done_E n) (by kernel_rfl : Tryd.f10.body = some (bodyOf Tryd.f10)) (lo_of (E := done_E n) (by kernel_rfl : loopsOf 0 (bodyOf Tryd.f10) = []) lo_nil)
theorem done_ok (n : Nat) : FnOK Tryd.prog gls 10 (done_ent (A := A) (done_k n)) :=
  FnOK.ofOwn (done_T n) (done_fns n) follows ⟨Tryd.func10, by kernel_rfl⟩ (done_lo n) (rm := [.pure]) (S := done_sh) fun d k => Eq.trans (by kernel_rfl) (done_eq n d.1.2.1 d.2.1.1 d.2.1.2.2 d.2.2.1 k)

end Go.Ev
end

