/-
  FUNCTION 9: printed by a program of our own (wip/gen/st.py). 'masthead/sip.Hash', in continuation form; the evaluator gives it.
-/
import Derived.Test.YtonpbpkkepacpaaSipF18
import Derived.Test.YtonpbpkkepacpaaSipF17
import Derived.Test.YtonpbpkkepacpaaSipF11
set_option linter.all false
set_option maxRecDepth 100000
namespace Go.Ev
open Go.Proofs
variable {A : Type}

-- ============================================================ hash (function 9)
def hash_b1 (g_num : (List Int) → (Int → Option A) → Option A) (g_take : (List Int) → Int → ((List Int) → Option A) → Option A) (g_round : (List Int) → ((List Int) → Option A) → Option A) (n : Nat) (t4 : Int) (k0 : Int → (List Int) → Option A) (r : Int → (List Int) → Option A) (t44 : Int) (v : (List Int)) : Option A :=
  bif (decide (t44 < 4)) then
    g_round v fun r12 =>
    r (IntKind.wrap .i64 (t44 + 1)) r12
  else
    k0 t44 v

def hash_l1 (g_num : (List Int) → (Int → Option A) → Option A) (g_take : (List Int) → Int → ((List Int) → Option A) → Option A) (g_round : (List Int) → ((List Int) → Option A) → Option A) (n : Nat) (t4 : Int) (k0 : Int → (List Int) → Option A) : Nat → Int → (List Int) → Option A
  | 0 => fun _ _ => none
  | f + 1 => hash_b1 g_num g_take g_round n t4 k0 (hash_l1 g_num g_take g_round n t4 k0 f)

def hash_b0 (g_num : (List Int) → (Int → Option A) → Option A) (g_take : (List Int) → Int → ((List Int) → Option A) → Option A) (g_round : (List Int) → ((List Int) → Option A) → Option A) (n : Nat) (t4 : Int) (last : Int) (k0 : (List Int) → (List Int) → Option A) (r : (List Int) → (List Int) → Option A) (b : (List Int)) (v : (List Int)) : Option A :=
  bif (decide ((b.length : Int) ≥ 8)) then
    g_num b fun r5 =>
    g_take v r5 fun r6 =>
    if 8 ≤ (b.length : Int) then
      r ((b.drop 8).take (b.length - 8)) r6
    else none
  else
    k0 b v

def hash_l0 (g_num : (List Int) → (Int → Option A) → Option A) (g_take : (List Int) → Int → ((List Int) → Option A) → Option A) (g_round : (List Int) → ((List Int) → Option A) → Option A) (n : Nat) (t4 : Int) (last : Int) (k0 : (List Int) → (List Int) → Option A) : Nat → (List Int) → (List Int) → Option A
  | 0 => fun _ _ => none
  | f + 1 => hash_b0 g_num g_take g_round n t4 last k0 (hash_l0 g_num g_take g_round n t4 last k0 f)

def hash_p (g_num : (List Int) → (Int → Option A) → Option A) (g_take : (List Int) → Int → ((List Int) → Option A) → Option A) (g_round : (List Int) → ((List Int) → Option A) → Option A) (n : Nat) (a0 : (List Int)) (a1 : (List Int)) (k : Int → Option A) : Option A :=
  (a0[0]?).bind fun y1 =>
  (a0[1]?).bind fun y2 =>
  (a0[0]?).bind fun y3 =>
  (a0[1]?).bind fun y4 =>
  hash_l0 g_num g_take g_round n 0 (shl .u64 (IntKind.wrap .u64 (IntKind.wrap .u8 (a1.length : Int))) 56) (fun y7 y8 =>
    g_num y7 fun r9 =>
    g_take y8 (ior .u64 (shl .u64 (IntKind.wrap .u64 (IntKind.wrap .u8 (a1.length : Int))) 56) r9) fun r10 =>
    (r10[2]?).bind fun y11 =>
    hash_l1 g_num g_take g_round n 0 (fun y13 y14 =>
      (y14[0]?).bind fun y15 =>
      (y14[1]?).bind fun y16 =>
      (y14[2]?).bind fun y17 =>
      (y14[3]?).bind fun y18 =>
      k (ixor .u64 (ixor .u64 (ixor .u64 y15 y16) y17) y18)) n 0 (r10.set 2 (ixor .u64 y11 255))) n a1 [(ixor .u64 y1 8317987319222330741), (ixor .u64 y2 7237128888997146477), (ixor .u64 y3 7816392313619706465), (ixor .u64 y4 8387220255154660723)]

def hash_k (n : Nat) (a0 : (List Int)) (a1 : (List Int)) (k : Int → Option A) : Option A := hash_p (num_k n) (take_k n) (round_k n) n a0 a1 k

noncomputable def hash_c0 : Code := codeAt [1, 1, 1, 0, 0, 0] (bodyOf Try.f9)
def hash_d0 : List Nat := [0, 2, 7, 8, 9, 10, 11, 12, 13, 14, 15, 16, 17, 18, 19, 20, 21, 22, 23, 24, 25, 26, 27, 28, 29, 30, 31, 32, 33]
def hash_sh0 : Shape := ⟨[.any, (.p (.sl (.int .u8))), .any, .any, (.p (.int .u64)), (.ptr 0), (.p (.int .u64)), .any, .any, .any, .any, .any, .any, .any, .any, .any, .any, .any, .any, .any, .any, .any, .any, .any, .any, .any, .any, .any, .any, .any, .any, .any, .any, .any, .any, .any, .any, .any, .any, .any, .any, .any, .any, .any, .any, .any, .any, .any, .any, .any, .any, .any, .any, .any, .any, .any, .any, .any, .any, .any], [(.var 29 kT29 (.p kT29))], 0⟩
def hash_t0 (t4 : Int) (last : Int) (b : (List Int)) (v : (List Int)) : hash_sh0.den := (((), b, (), (), t4, (), last, (), (), (), (), (), (), (), (), (), (), (), (), (), (), (), (), (), (), (), (), (), (), (), (), (), (), (), (), (), (), (), (), (), (), (), (), (), (), (), (), (), (), (), (), (), (), (), (), (), (), (), (), (), ()), (v, ()))
def hash_x0_0 (t4 : Int) (last : Int) (z0 : (List Int)) (z3 : (List Int)) : St := ⟨[.any, .p (.sl (.int .u8)) z0, .any, .any, .p (.int .u64) t4, .ptr 0 [], .p (.int .u64) last, .any, .any, .any, .any, .any, .any, .any, .any, .any, .any, .any, .any, .any, .any, .any, .any, .any, .any, .any, .any, .any, .any, .any, .any, .any, .any, .any, .any, .any, .any, .any, .any, .any, .any, .any, .any, .any, .any, .any, .any, .any, .any, .any, .any, .any, .any, .any, .any, .any, .any, .any, .any, .any], [.var 29 kT29 (.p kT29 z3)], 0⟩
def hash_g0 (g_num : (List Int) → (Int → Option A) → Option A) (g_take : (List Int) → Int → ((List Int) → Option A) → Option A) (g_round : (List Int) → ((List Int) → Option A) → Option A) (n : Nat) (d : hash_sh0.den) (k : Ex → St → Option A) : Option A :=
  hash_l0 g_num g_take g_round n d.1.2.2.2.2.1 d.1.2.2.2.2.2.2.1 (fun z0 z3 => k (.exit 0) (hash_x0_0 d.1.2.2.2.2.1 d.1.2.2.2.2.2.2.1 z0 z3)) n d.1.2.1 d.2.1
noncomputable def hash_c1 : Code := codeAt [1, 1, 1, 1, 1, 1, 0, 1, 0, 0] (bodyOf Try.f9)
def hash_d1 : List Nat := [1, 6, 34, 35, 36, 37, 38, 39, 40, 41, 42, 43, 45, 46, 47, 48]
def hash_sh1 : Shape := ⟨[.any, .any, .any, .any, (.p (.int .u64)), (.ptr 0), .any, .any, .any, .any, .any, .any, .any, .any, .any, .any, .any, .any, .any, .any, .any, .any, .any, .any, .any, .any, .any, .any, .any, .any, .any, .any, .any, .any, .any, .any, .any, .any, .any, .any, .any, .any, .any, .any, (.p (.int .i64)), .any, .any, .any, .any, .any, .any, .any, .any, .any, .any, .any, .any, .any, .any, .any], [(.var 29 kT29 (.p kT29))], 0⟩
def hash_t1 (t4 : Int) (t44 : Int) (v : (List Int)) : hash_sh1.den := (((), (), (), (), t4, (), (), (), (), (), (), (), (), (), (), (), (), (), (), (), (), (), (), (), (), (), (), (), (), (), (), (), (), (), (), (), (), (), (), (), (), (), (), (), t44, (), (), (), (), (), (), (), (), (), (), (), (), (), (), (), ()), (v, ()))
def hash_x1_0 (t4 : Int) (z1 : Int) (z2 : (List Int)) : St := ⟨[.any, .any, .any, .any, .p (.int .u64) t4, .ptr 0 [], .any, .any, .any, .any, .any, .any, .any, .any, .any, .any, .any, .any, .any, .any, .any, .any, .any, .any, .any, .any, .any, .any, .any, .any, .any, .any, .any, .any, .any, .any, .any, .any, .any, .any, .any, .any, .any, .any, .p (.int .i64) z1, .any, .any, .any, .any, .any, .any, .any, .any, .any, .any, .any, .any, .any, .any, .any], [.var 29 kT29 (.p kT29 z2)], 0⟩
def hash_g1 (g_num : (List Int) → (Int → Option A) → Option A) (g_take : (List Int) → Int → ((List Int) → Option A) → Option A) (g_round : (List Int) → ((List Int) → Option A) → Option A) (n : Nat) (d : hash_sh1.den) (k : Ex → St → Option A) : Option A :=
  hash_l1 g_num g_take g_round n d.1.2.2.2.2.1 (fun z1 z2 => k (.exit 2) (hash_x1_0 d.1.2.2.2.2.1 z1 z2)) n d.1.2.2.2.2.2.2.2.2.2.2.2.2.2.2.2.2.2.2.2.2.2.2.2.2.2.2.2.2.2.2.2.2.2.2.2.2.2.2.2.2.2.2.2.2.1 d.2.1
noncomputable def hash_E (g_num : (List Int) → (Int → Option A) → Option A) (g_take : (List Int) → Int → ((List Int) → Option A) → Option A) (g_round : (List Int) → ((List Int) → Option A) → Option A) (n : Nat) : Env A := ⟨tys, gls, [(18, num_ent g_num), (17, take_ent g_take), (11, round_ent g_round)], [(0, loopE hash_d0 hash_sh0 (hash_g0 g_num g_take g_round n)), (1, loopE hash_d1 hash_sh1 (hash_g1 g_num g_take g_round n))]⟩
theorem hash_T (g_num : (List Int) → (Int → Option A) → Option A) (g_take : (List Int) → Int → ((List Int) → Option A) → Option A) (g_round : (List Int) → ((List Int) → Option A) → Option A) (n : Nat) : TyOK Try.prog (hash_E g_num g_take g_round n) := tyOK_of rfl tysB
theorem hash_fns (n : Nat) : FnsOK Try.prog (hash_E (A := A) (num_k n) (take_k n) (round_k n) n) := AllOK.env rfl rfl (AllOK.cons (num_ok n) (AllOK.cons (take_ok n) (AllOK.cons (round_ok n) AllOK.nil)))
noncomputable def hash_LK1 (g_num : (List Int) → (Int → Option A) → Option A) (g_take : (List Int) → Int → ((List Int) → Option A) → Option A) (g_round : (List Int) → ((List Int) → Option A) → Option A) (n : Nat) (t4 : Int) (k : Ex → St → Option A) (f : Nat) (t44 : Int) (v : (List Int)) : Option A := loopK (codeK (hash_E g_num g_take g_round n) 2 hash_c1) hash_d1 f (hash_sh1.fill (hash_t1 t4 t44 v)) k
theorem hash_st1 (g_num : (List Int) → (Int → Option A) → Option A) (g_take : (List Int) → Int → ((List Int) → Option A) → Option A) (g_round : (List Int) → ((List Int) → Option A) → Option A) (n f : Nat) (t4 : Int) (k : Ex → St → Option A) (t44 : Int) (v : (List Int)) : hash_LK1 g_num g_take g_round n t4 k (f + 1) t44 v = hash_b1 g_num g_take g_round n t4 (fun z1 z2 => k (.exit 2) (hash_x1_0 t4 z1 z2)) (hash_LK1 g_num g_take g_round n t4 k f) t44 v := by kernel_rfl
theorem hash_le1 (g_num : (List Int) → (Int → Option A) → Option A) (g_take : (List Int) → Int → ((List Int) → Option A) → Option A) (g_round : (List Int) → ((List Int) → Option A) → Option A) (n : Nat) (t4 : Int) (k : Ex → St → Option A) : ∀ (f : Nat) (t44 : Int) (v : (List Int)), hash_LK1 g_num g_take g_round n t4 k f t44 v = hash_l1 g_num g_take g_round n t4 (fun z1 z2 => k (.exit 2) (hash_x1_0 t4 z1 z2)) f t44 v := by
  intro f
  induction f with
  | zero => intros; kernel_rfl
  | succ f ih => intro t44 v; exact (hash_st1 g_num g_take g_round n f t4 k t44 v).trans ((congrArg (fun r => hash_b1 g_num g_take g_round n t4 (fun z1 z2 => k (.exit 2) (hash_x1_0 t4 z1 z2)) r t44 v) (funext fun t44 => funext fun v => ih t44 v)).trans (by kernel_rfl))
theorem hash_lo1 (n : Nat) : LoopOK Try.prog gls hash_c1 (loopE hash_d1 hash_sh1 (hash_g1 (A := A) (num_k n) (take_k n) (round_k n) n)) :=
  LoopOK.of (hash_T (num_k n) (take_k n) (round_k n) n) (hash_fns n) follows (j := 2) (n := n) (lo_of (by kernel_rfl : loopsOf 2 hash_c1 = []) lo_nil) fun d k => Eq.trans (by kernel_rfl) (hash_le1 (num_k n) (take_k n) (round_k n) n d.1.2.2.2.2.1 k n d.1.2.2.2.2.2.2.2.2.2.2.2.2.2.2.2.2.2.2.2.2.2.2.2.2.2.2.2.2.2.2.2.2.2.2.2.2.2.2.2.2.2.2.2.2.1 d.2.1)
noncomputable def hash_LK0 (g_num : (List Int) → (Int → Option A) → Option A) (g_take : (List Int) → Int → ((List Int) → Option A) → Option A) (g_round : (List Int) → ((List Int) → Option A) → Option A) (n : Nat) (t4 : Int) (last : Int) (k : Ex → St → Option A) (f : Nat) (b : (List Int)) (v : (List Int)) : Option A := loopK (codeK (hash_E g_num g_take g_round n) 1 hash_c0) hash_d0 f (hash_sh0.fill (hash_t0 t4 last b v)) k
theorem hash_st0 (g_num : (List Int) → (Int → Option A) → Option A) (g_take : (List Int) → Int → ((List Int) → Option A) → Option A) (g_round : (List Int) → ((List Int) → Option A) → Option A) (n f : Nat) (t4 : Int) (last : Int) (k : Ex → St → Option A) (b : (List Int)) (v : (List Int)) : hash_LK0 g_num g_take g_round n t4 last k (f + 1) b v = hash_b0 g_num g_take g_round n t4 last (fun z0 z3 => k (.exit 0) (hash_x0_0 t4 last z0 z3)) (hash_LK0 g_num g_take g_round n t4 last k f) b v := by kernel_rfl
theorem hash_le0 (g_num : (List Int) → (Int → Option A) → Option A) (g_take : (List Int) → Int → ((List Int) → Option A) → Option A) (g_round : (List Int) → ((List Int) → Option A) → Option A) (n : Nat) (t4 : Int) (last : Int) (k : Ex → St → Option A) : ∀ (f : Nat) (b : (List Int)) (v : (List Int)), hash_LK0 g_num g_take g_round n t4 last k f b v = hash_l0 g_num g_take g_round n t4 last (fun z0 z3 => k (.exit 0) (hash_x0_0 t4 last z0 z3)) f b v := by
  intro f
  induction f with
  | zero => intros; kernel_rfl
  | succ f ih => intro b v; exact (hash_st0 g_num g_take g_round n f t4 last k b v).trans ((congrArg (fun r => hash_b0 g_num g_take g_round n t4 last (fun z0 z3 => k (.exit 0) (hash_x0_0 t4 last z0 z3)) r b v) (funext fun b => funext fun v => ih b v)).trans (by kernel_rfl))
theorem hash_lo0 (n : Nat) : LoopOK Try.prog gls hash_c0 (loopE hash_d0 hash_sh0 (hash_g0 (A := A) (num_k n) (take_k n) (round_k n) n)) :=
  LoopOK.of (hash_T (num_k n) (take_k n) (round_k n) n) (hash_fns n) follows (j := 1) (n := n) (lo_of (by kernel_rfl : loopsOf 1 hash_c0 = []) lo_nil) fun d k => Eq.trans (by kernel_rfl) (hash_le0 (num_k n) (take_k n) (round_k n) n d.1.2.2.2.2.1 d.1.2.2.2.2.2.2.1 k n d.1.2.1 d.2.1)
theorem hash_eqg (g_num : (List Int) → (Int → Option A) → Option A) (g_take : (List Int) → Int → ((List Int) → Option A) → Option A) (g_round : (List Int) → ((List Int) → Option A) → Option A) (n : Nat) (a0 : (List Int)) (a1 : (List Int)) (k : AV → List Blk → Option A) : fnK (hash_E g_num g_take g_round n) Try.f9 [.pure] [.p kT23 a0, .p (.sl (.int .u8)) a1] [] k = hash_p g_num g_take g_round n a0 a1 (fun r0 => k (.p (.int .u64) r0) []) := by kernel_rfl
theorem hash_eq (n : Nat) (a0 : (List Int)) (a1 : (List Int)) (k : AV → List Blk → Option A) : fnK (hash_E (num_k n) (take_k n) (round_k n) n) Try.f9 [.pure] [.p kT23 a0, .p (.sl (.int .u8)) a1] [] k = hash_k n a0 a1 (fun r0 => k (.p (.int .u64) r0) []) := hash_eqg (num_k n) (take_k n) (round_k n) n a0 a1 k
def hash_ent (g : (List Int) → (List Int) → (Int → Option A) → Option A) : Entry A := pureE fun args k => args2 args kT23 (.sl (.int .u8)) fun a0 a1 => g a0 a1 (fun r0 => k (.p (.int .u64) r0) [])
theorem hash_lo (n : Nat) : ∀ c, Try.f9.body = some c → ∀ q ∈ loopsOf 0 c, ∀ L, (hash_E (A := A) (num_k n) (take_k n) (round_k n) n).lps.lookup q.1 = some L → LoopOK Try.prog gls q.2 L :=
  lo_body (E := hash_E (num_k n) (take_k n) (round_k n) n) (by kernel_rfl : Try.f9.body = some (bodyOf Try.f9)) (lo_of (E := hash_E (num_k n) (take_k n) (round_k n) n) (by kernel_rfl : loopsOf 0 (bodyOf Try.f9) = [(0, hash_c0), (1, hash_c1)]) (lo_cons rfl (hash_lo0 n) (lo_cons rfl (hash_lo1 n) lo_nil)))
theorem hash_ok (n : Nat) : FnOK Try.prog gls 9 (hash_ent (A := A) (hash_k n)) :=
  FnOK.of (hash_T (num_k n) (take_k n) (round_k n) n) (hash_fns n) follows ⟨Try.func9, by kernel_rfl⟩ (hash_lo n) (rm := [.pure]) fun args k out h => by
    obtain ⟨a0, a1, e, h1⟩ := args2_sound h
    subst e; rw [hash_eq]; exact h1

end Go.Ev
