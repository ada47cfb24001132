/-
  FUNCTION 7: printed by a program of our own (wip/gen/st.py). 'masthead/mastheadlaw03.SipKeys', in continuation form; the evaluator gives it.
-/
import Derived.Test.YtonpbpkkepacpaaSipF8
import Derived.Test.YtonpbpkkepacpaaSipF15
import Derived.Test.YtonpbpkkepacpaaSipF16
import Derived.Test.YtonpbpkkepacpaaSipF9
set_option linter.all false
set_option maxRecDepth 100000
namespace Go.Ev
open Go.Proofs
variable {A : Type}

-- ============================================================ keys (function 7)
def keys_b0 (g_awake : (Bool → Option A) → Option A) (g_key : (List Int) → ((List Int) → Option A) → Option A) (g_value : (List Int) → (Int → Option A) → Option A) (g_hash : (List Int) → (List Int) → (Int → Option A) → Option A) (n : Nat) (b : (List Int)) (t4 : Bool) (h : (List Int)) (k_ : (List Int)) (k0 : Int → (List Int) → Option A) (r : Int → (List Int) → Option A) (i : Int) (other : (List Int)) : Option A :=
  bif (decide (i < 32)) then
    if 0 ≤ i then
      if i < 32 then
        (other[(Int.toNat i)]?).bind fun y3 =>
        if 0 ≤ i then
          if i < 32 then
            if (Int.toNat i) < 32 then
              r (IntKind.wrap .i64 (i + 1)) (other.set (Int.toNat i) (ixor .u8 255 y3))
            else none
          else none
        else none
      else none
    else none
  else
    k0 i other

def keys_l0 (g_awake : (Bool → Option A) → Option A) (g_key : (List Int) → ((List Int) → Option A) → Option A) (g_value : (List Int) → (Int → Option A) → Option A) (g_hash : (List Int) → (List Int) → (Int → Option A) → Option A) (n : Nat) (b : (List Int)) (t4 : Bool) (h : (List Int)) (k_ : (List Int)) (k0 : Int → (List Int) → Option A) : Nat → Int → (List Int) → Option A
  | 0 => fun _ _ => none
  | f + 1 => keys_b0 g_awake g_key g_value g_hash n b t4 h k_ k0 (keys_l0 g_awake g_key g_value g_hash n b t4 h k_ k0 f)

def keys_p (g_awake : (Bool → Option A) → Option A) (g_key : (List Int) → ((List Int) → Option A) → Option A) (g_value : (List Int) → (Int → Option A) → Option A) (g_hash : (List Int) → (List Int) → (Int → Option A) → Option A) (n : Nat) (a0 : (List Int)) (a1 : (List Int)) (k : Bool → Option A) : Option A :=
  bif (decide ((a1.length : Int) > 100)) then
    g_awake fun r1 =>
    k r1
  else
    g_key a0 fun r2 =>
    keys_l0 g_awake g_key g_value g_hash n a1 false a0 r2 (fun y4 y5 =>
      (r2[0]?).bind fun y6 =>
      g_value ((a0.drop 0).take 8) fun r7 =>
      bif (y6 == r7) then
        (r2[1]?).bind fun y8 =>
        g_value ((a0.drop 8).take 8) fun r9 =>
        bif (y8 == r9) then
          g_key y5 fun r10 =>
          g_hash r10 a1 fun r11 =>
          g_hash r2 a1 fun r12 =>
          bif (r11 == r12) then
            g_awake fun r13 =>
            k r13
          else
            k false
        else
          k false
      else
        k false) n 16 a0

def keys_k (n : Nat) (a0 : (List Int)) (a1 : (List Int)) (k : Bool → Option A) : Option A := keys_p (awake_k n) (key_k n) (value_k n) (hash_k n) n a0 a1 k

noncomputable def keys_c0 : Code := codeAt [1, 1, 1, 1, 0, 1, 0, 0] (bodyOf Try.f7)
def keys_d0 : List Nat := [0, 8, 9, 10, 12, 13, 14, 15, 16, 17, 18, 19, 20, 21, 22, 23, 24]
def keys_sh0 : Shape := ⟨[.any, (.p (.sl (.int .u8))), (.ptr 0), .any, (.p .bool), (.ptr 1), (.ptr 2), (.p (.int .i64)), .any, .any, .any, .any, .any, .any, .any, .any, .any, .any, .any, .any, .any, .any, .any, .any, .any, .any, .any, .any, .any, .any, .any, .any, .any, .any, .any, .any, .any, .any, .any, .any, .any, .any, .any, .any, .any, .any, .any, .any, .any, .any], [(.var 35 kT34 (.p kT34)), (.var 23 kT23 (.p kT23)), (.var 35 kT34 (.p kT34))], 0⟩
def keys_t0 (b : (List Int)) (t4 : Bool) (h : (List Int)) (k_ : (List Int)) (i : Int) (other : (List Int)) : keys_sh0.den := (((), b, (), (), t4, (), (), i, (), (), (), (), (), (), (), (), (), (), (), (), (), (), (), (), (), (), (), (), (), (), (), (), (), (), (), (), (), (), (), (), (), (), (), (), (), (), (), (), (), (), ()), (h, k_, other, ()))
def keys_x0_0 (b : (List Int)) (t4 : Bool) (h : (List Int)) (k_ : (List Int)) (z2 : Int) (z5 : (List Int)) : St := ⟨[.any, .p (.sl (.int .u8)) b, .ptr 0 [], .any, .p .bool t4, .ptr 1 [], .ptr 2 [], .p (.int .i64) z2, .any, .any, .any, .any, .any, .any, .any, .any, .any, .any, .any, .any, .any, .any, .any, .any, .any, .any, .any, .any, .any, .any, .any, .any, .any, .any, .any, .any, .any, .any, .any, .any, .any, .any, .any, .any, .any, .any, .any, .any, .any, .any], [.var 35 kT34 (.p kT34 h), .var 23 kT23 (.p kT23 k_), .var 35 kT34 (.p kT34 z5)], 0⟩
def keys_g0 (g_awake : (Bool → Option A) → Option A) (g_key : (List Int) → ((List Int) → Option A) → Option A) (g_value : (List Int) → (Int → Option A) → Option A) (g_hash : (List Int) → (List Int) → (Int → Option A) → Option A) (n : Nat) (d : keys_sh0.den) (k : Ex → St → Option A) : Option A :=
  keys_l0 g_awake g_key g_value g_hash n d.1.2.1 d.1.2.2.2.2.1 d.2.1 d.2.2.1 (fun z2 z5 => k (.exit 0) (keys_x0_0 d.1.2.1 d.1.2.2.2.2.1 d.2.1 d.2.2.1 z2 z5)) n d.1.2.2.2.2.2.2.2.1 d.2.2.2.1
noncomputable def keys_E (g_awake : (Bool → Option A) → Option A) (g_key : (List Int) → ((List Int) → Option A) → Option A) (g_value : (List Int) → (Int → Option A) → Option A) (g_hash : (List Int) → (List Int) → (Int → Option A) → Option A) (n : Nat) : Env A := ⟨tys, gls, [(8, awake_ent g_awake), (15, key_ent g_key), (16, value_ent g_value), (9, hash_ent g_hash)], [(0, loopE keys_d0 keys_sh0 (keys_g0 g_awake g_key g_value g_hash n))]⟩
theorem keys_T (g_awake : (Bool → Option A) → Option A) (g_key : (List Int) → ((List Int) → Option A) → Option A) (g_value : (List Int) → (Int → Option A) → Option A) (g_hash : (List Int) → (List Int) → (Int → Option A) → Option A) (n : Nat) : TyOK Try.prog (keys_E g_awake g_key g_value g_hash n) := tyOK_of rfl tysB
theorem keys_fns (n : Nat) : FnsOK Try.prog (keys_E (A := A) (awake_k n) (key_k n) (value_k n) (hash_k n) n) := AllOK.env rfl rfl (AllOK.cons (awake_ok n) (AllOK.cons (key_ok n) (AllOK.cons (value_ok n) (AllOK.cons (hash_ok n) AllOK.nil))))
noncomputable def keys_LK0 (g_awake : (Bool → Option A) → Option A) (g_key : (List Int) → ((List Int) → Option A) → Option A) (g_value : (List Int) → (Int → Option A) → Option A) (g_hash : (List Int) → (List Int) → (Int → Option A) → Option A) (n : Nat) (b : (List Int)) (t4 : Bool) (h : (List Int)) (k_ : (List Int)) (k : Ex → St → Option A) (f : Nat) (i : Int) (other : (List Int)) : Option A := loopK (codeK (keys_E g_awake g_key g_value g_hash n) 1 keys_c0) keys_d0 f (keys_sh0.fill (keys_t0 b t4 h k_ i other)) k
theorem keys_st0 (g_awake : (Bool → Option A) → Option A) (g_key : (List Int) → ((List Int) → Option A) → Option A) (g_value : (List Int) → (Int → Option A) → Option A) (g_hash : (List Int) → (List Int) → (Int → Option A) → Option A) (n f : Nat) (b : (List Int)) (t4 : Bool) (h : (List Int)) (k_ : (List Int)) (k : Ex → St → Option A) (i : Int) (other : (List Int)) : keys_LK0 g_awake g_key g_value g_hash n b t4 h k_ k (f + 1) i other = keys_b0 g_awake g_key g_value g_hash n b t4 h k_ (fun z2 z5 => k (.exit 0) (keys_x0_0 b t4 h k_ z2 z5)) (keys_LK0 g_awake g_key g_value g_hash n b t4 h k_ k f) i other := by kernel_rfl
theorem keys_le0 (g_awake : (Bool → Option A) → Option A) (g_key : (List Int) → ((List Int) → Option A) → Option A) (g_value : (List Int) → (Int → Option A) → Option A) (g_hash : (List Int) → (List Int) → (Int → Option A) → Option A) (n : Nat) (b : (List Int)) (t4 : Bool) (h : (List Int)) (k_ : (List Int)) (k : Ex → St → Option A) : ∀ (f : Nat) (i : Int) (other : (List Int)), keys_LK0 g_awake g_key g_value g_hash n b t4 h k_ k f i other = keys_l0 g_awake g_key g_value g_hash n b t4 h k_ (fun z2 z5 => k (.exit 0) (keys_x0_0 b t4 h k_ z2 z5)) f i other := by
  intro f
  induction f with
  | zero => intros; kernel_rfl
  | succ f ih => intro i other; exact (keys_st0 g_awake g_key g_value g_hash n f b t4 h k_ k i other).trans ((congrArg (fun r => keys_b0 g_awake g_key g_value g_hash n b t4 h k_ (fun z2 z5 => k (.exit 0) (keys_x0_0 b t4 h k_ z2 z5)) r i other) (funext fun i => funext fun other => ih i other)).trans (by kernel_rfl))
theorem keys_lo0 (n : Nat) : LoopOK Try.prog gls keys_c0 (loopE keys_d0 keys_sh0 (keys_g0 (A := A) (awake_k n) (key_k n) (value_k n) (hash_k n) n)) :=
  LoopOK.of (keys_T (awake_k n) (key_k n) (value_k n) (hash_k n) n) (keys_fns n) follows (j := 1) (n := n) (lo_of (by kernel_rfl : loopsOf 1 keys_c0 = []) lo_nil) fun d k => Eq.trans (by kernel_rfl) (keys_le0 (awake_k n) (key_k n) (value_k n) (hash_k n) n d.1.2.1 d.1.2.2.2.2.1 d.2.1 d.2.2.1 k n d.1.2.2.2.2.2.2.2.1 d.2.2.2.1)
theorem keys_eqg (g_awake : (Bool → Option A) → Option A) (g_key : (List Int) → ((List Int) → Option A) → Option A) (g_value : (List Int) → (Int → Option A) → Option A) (g_hash : (List Int) → (List Int) → (Int → Option A) → Option A) (n : Nat) (a0 : (List Int)) (a1 : (List Int)) (k : AV → List Blk → Option A) : fnK (keys_E g_awake g_key g_value g_hash n) Try.f7 [.pure] [.p kT34 a0, .p (.sl (.int .u8)) a1] [] k = keys_p g_awake g_key g_value g_hash n a0 a1 (fun r0 => k (.p .bool r0) []) := by kernel_rfl
theorem keys_eq (n : Nat) (a0 : (List Int)) (a1 : (List Int)) (k : AV → List Blk → Option A) : fnK (keys_E (awake_k n) (key_k n) (value_k n) (hash_k n) n) Try.f7 [.pure] [.p kT34 a0, .p (.sl (.int .u8)) a1] [] k = keys_k n a0 a1 (fun r0 => k (.p .bool r0) []) := keys_eqg (awake_k n) (key_k n) (value_k n) (hash_k n) n a0 a1 k
def keys_ent (g : (List Int) → (List Int) → (Bool → Option A) → Option A) : Entry A := pureE fun args k => args2 args kT34 (.sl (.int .u8)) fun a0 a1 => g a0 a1 (fun r0 => k (.p .bool r0) [])
theorem keys_lo (n : Nat) : ∀ c, Try.f7.body = some c → ∀ q ∈ loopsOf 0 c, ∀ L, (keys_E (A := A) (awake_k n) (key_k n) (value_k n) (hash_k n) n).lps.lookup q.1 = some L → LoopOK Try.prog gls q.2 L :=
  lo_body (E := keys_E (awake_k n) (key_k n) (value_k n) (hash_k n) n) (by kernel_rfl : Try.f7.body = some (bodyOf Try.f7)) (lo_of (E := keys_E (awake_k n) (key_k n) (value_k n) (hash_k n) n) (by kernel_rfl : loopsOf 0 (bodyOf Try.f7) = [(0, keys_c0)]) (lo_cons rfl (keys_lo0 n) lo_nil))
theorem keys_ok (n : Nat) : FnOK Try.prog gls 7 (keys_ent (A := A) (keys_k n)) :=
  FnOK.of (keys_T (awake_k n) (key_k n) (value_k n) (hash_k n) n) (keys_fns n) follows ⟨Try.func7, by kernel_rfl⟩ (keys_lo n) (rm := [.pure]) fun args k out h => by
    obtain ⟨a0, a1, e, h1⟩ := args2_sound h
    subst e; rw [keys_eq]; exact h1

end Go.Ev
