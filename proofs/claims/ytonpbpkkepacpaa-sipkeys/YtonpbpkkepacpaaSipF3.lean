/-
  FUNCTION 3: printed by a program of our own (wip/gen/st.py). 'masthead/mastheadlaw03.SipHashes', in continuation form; the evaluator gives it.
-/
import Derived.Test.YtonpbpkkepacpaaSipF8
import Derived.Test.YtonpbpkkepacpaaSipF9
import Derived.Test.YtonpbpkkepacpaaSipF10
set_option linter.all false
set_option maxRecDepth 100000
namespace Go.Ev
open Go.Proofs
variable {A : Type}

-- ============================================================ hashes (function 3)
def hashes_p (g_awake : (Bool → Option A) → Option A) (g_hash : (List Int) → (List Int) → (Int → Option A) → Option A) (g_rhash : Int → Int → (List Int) → (Int → Option A) → Option A) (n : Nat) (a0 : (List Int)) (a1 : (List Int)) (k : Bool → Option A) : Option A :=
  bif (decide ((a1.length : Int) > 300)) then
    g_awake fun r1 =>
    k r1
  else
    g_hash a0 a1 fun r2 =>
    (a0[0]?).bind fun y3 =>
    (a0[1]?).bind fun y4 =>
    g_rhash y3 y4 a1 fun r5 =>
    bif (r2 == r5) then
      g_awake fun r6 =>
      k r6
    else
      k false

def hashes_k (n : Nat) (a0 : (List Int)) (a1 : (List Int)) (k : Bool → Option A) : Option A := hashes_p (awake_k n) (hash_k n) (rhash_k n) n a0 a1 k

noncomputable def hashes_E (g_awake : (Bool → Option A) → Option A) (g_hash : (List Int) → (List Int) → (Int → Option A) → Option A) (g_rhash : Int → Int → (List Int) → (Int → Option A) → Option A) (n : Nat) : Env A := ⟨tys, gls, [(8, awake_ent g_awake), (9, hash_ent g_hash), (10, rhash_ent g_rhash)], []⟩
theorem hashes_T (g_awake : (Bool → Option A) → Option A) (g_hash : (List Int) → (List Int) → (Int → Option A) → Option A) (g_rhash : Int → Int → (List Int) → (Int → Option A) → Option A) (n : Nat) : TyOK Try.prog (hashes_E g_awake g_hash g_rhash n) := tyOK_of rfl tysB
theorem hashes_fns (n : Nat) : FnsOK Try.prog (hashes_E (A := A) (awake_k n) (hash_k n) (rhash_k n) n) := AllOK.env rfl rfl (AllOK.cons (awake_ok n) (AllOK.cons (hash_ok n) (AllOK.cons (rhash_ok n) AllOK.nil)))
theorem hashes_eqg (g_awake : (Bool → Option A) → Option A) (g_hash : (List Int) → (List Int) → (Int → Option A) → Option A) (g_rhash : Int → Int → (List Int) → (Int → Option A) → Option A) (n : Nat) (a0 : (List Int)) (a1 : (List Int)) (k : AV → List Blk → Option A) : fnK (hashes_E g_awake g_hash g_rhash n) Try.f3 [.pure] [.p kT23 a0, .p (.sl (.int .u8)) a1] [] k = hashes_p g_awake g_hash g_rhash n a0 a1 (fun r0 => k (.p .bool r0) []) := by kernel_rfl
theorem hashes_eq (n : Nat) (a0 : (List Int)) (a1 : (List Int)) (k : AV → List Blk → Option A) : fnK (hashes_E (awake_k n) (hash_k n) (rhash_k n) n) Try.f3 [.pure] [.p kT23 a0, .p (.sl (.int .u8)) a1] [] k = hashes_k n a0 a1 (fun r0 => k (.p .bool r0) []) := hashes_eqg (awake_k n) (hash_k n) (rhash_k n) n a0 a1 k
def hashes_ent (g : (List Int) → (List Int) → (Bool → Option A) → Option A) : Entry A := pureE fun args k => args2 args kT23 (.sl (.int .u8)) fun a0 a1 => g a0 a1 (fun r0 => k (.p .bool r0) [])
theorem hashes_lo (n : Nat) : ∀ c, Try.f3.body = some c → ∀ q ∈ loopsOf 0 c, ∀ L, (hashes_E (A := A) (awake_k n) (hash_k n) (rhash_k n) n).lps.lookup q.1 = some L → LoopOK Try.prog gls q.2 L :=
  lo_body (E := hashes_E (awake_k n) (hash_k n) (rhash_k n) n) (by kernel_rfl : Try.f3.body = some (bodyOf Try.f3)) (lo_of (E := hashes_E (awake_k n) (hash_k n) (rhash_k n) n) (by kernel_rfl : loopsOf 0 (bodyOf Try.f3) = []) lo_nil)
theorem hashes_ok (n : Nat) : FnOK Try.prog gls 3 (hashes_ent (A := A) (hashes_k n)) :=
  FnOK.of (hashes_T (awake_k n) (hash_k n) (rhash_k n) n) (hashes_fns n) follows ⟨Try.func3, by kernel_rfl⟩ (hashes_lo n) (rm := [.pure]) fun args k out h => by
    obtain ⟨a0, a1, e, h1⟩ := args2_sound h
    subst e; rw [hashes_eq]; exact h1

end Go.Ev
