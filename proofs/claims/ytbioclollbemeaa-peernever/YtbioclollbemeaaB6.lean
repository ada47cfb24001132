import Derived.Test.YtbioclollbemeaaB5
set_option linter.all false
section
/-
  FUNCTION 33: printed by a program of our own (wip/gen/st.py). 'masthead/mastheadref24.Fail', in continuation form; the evaluator gives it.
-/
set_option linter.all false
set_option maxRecDepth 100000
namespace Go.Ev
open Go.Proofs
variable {A : Type}

-- ============================================================ rfail (function 33)
def rfail_p (g_rdelay : Int → Int → Int → (Int → Option A) → Option A) (n : Nat) (a0 : (Int × (Int × (Bool × ((Int × ((List Int) × (Int × Unit))) × (Int × ((List (Int × ((List Int) × (Int × Unit)))) × (Int × (Int × (Int × (Bool × Unit))))))))))) (a1 : Int) (k : (Int × (Int × (Bool × ((Int × ((List Int) × (Int × Unit))) × (Int × ((List (Int × ((List Int) × (Int × Unit)))) × (Int × (Int × (Int × (Bool × Unit)))))))))) → Option A) : Option A :=
  g_rdelay a0.1 a0.2.1 (IntKind.wrap .i64 (a0.2.2.2.2.2.2.1 + 1)) fun r1 =>
  k (a0.1, (a0.2.1, (a0.2.2.1, (a0.2.2.2.1, (a0.2.2.2.2.1, (a0.2.2.2.2.2.1, ((IntKind.wrap .i64 (a0.2.2.2.2.2.2.1 + 1)), ((IntKind.wrap .i64 (a1 + r1)), a0.2.2.2.2.2.2.2.2))))))))

def rfail_k (n : Nat) (a0 : (Int × (Int × (Bool × ((Int × ((List Int) × (Int × Unit))) × (Int × ((List (Int × ((List Int) × (Int × Unit)))) × (Int × (Int × (Int × (Bool × Unit))))))))))) (a1 : Int) (k : (Int × (Int × (Bool × ((Int × ((List Int) × (Int × Unit))) × (Int × ((List (Int × ((List Int) × (Int × Unit)))) × (Int × (Int × (Int × (Bool × Unit)))))))))) → Option A) : Option A := rfail_p (rdelay_k n) n a0 a1 k

noncomputable def rfail_E (g_rdelay : Int → Int → Int → (Int → Option A) → Option A) (n : Nat) : Env A := ⟨tys, gls, [(9, rdelay_ent g_rdelay)], [], []⟩
theorem rfail_T (g_rdelay : Int → Int → Int → (Int → Option A) → Option A) (n : Nat) : TyOK Try.prog (rfail_E g_rdelay n) := tyOK_of rfl tysB
theorem rfail_fns (n : Nat) : FnsOK Try.prog (rfail_E (A := A) (rdelay_k n) n) := AllOK.env rfl rfl (AllOK.cons (rdelay_ok n) AllOK.nil)
theorem rfail_eqg (g_rdelay : Int → Int → Int → (Int → Option A) → Option A) (n : Nat) (a0 : (Int × (Int × (Bool × ((Int × ((List Int) × (Int × Unit))) × (Int × ((List (Int × ((List Int) × (Int × Unit)))) × (Int × (Int × (Int × (Bool × Unit))))))))))) (a1 : Int) (k : AV → List Blk → Option A) : fnK (rfail_E g_rdelay n) Try.f33 [.pure] [.p kT53 a0, .p (.int .i64) a1] [] k = rfail_p g_rdelay n a0 a1 (fun r0 => k (.p kT53 r0) []) := by kernel_rfl
theorem rfail_eq (n : Nat) (a0 : (Int × (Int × (Bool × ((Int × ((List Int) × (Int × Unit))) × (Int × ((List (Int × ((List Int) × (Int × Unit)))) × (Int × (Int × (Int × (Bool × Unit))))))))))) (a1 : Int) (k : AV → List Blk → Option A) : fnK (rfail_E (rdelay_k n) n) Try.f33 [.pure] [.p kT53 a0, .p (.int .i64) a1] [] k = rfail_k n a0 a1 (fun r0 => k (.p kT53 r0) []) := rfail_eqg (rdelay_k n) n a0 a1 k
def rfail_ent (g : (Int × (Int × (Bool × ((Int × ((List Int) × (Int × Unit))) × (Int × ((List (Int × ((List Int) × (Int × Unit)))) × (Int × (Int × (Int × (Bool × Unit)))))))))) → Int → ((Int × (Int × (Bool × ((Int × ((List Int) × (Int × Unit))) × (Int × ((List (Int × ((List Int) × (Int × Unit)))) × (Int × (Int × (Int × (Bool × Unit)))))))))) → Option A) → Option A) : Entry A := pureE fun args k => args2 args kT53 (.int .i64) fun a0 a1 => g a0 a1 (fun r0 => k (.p kT53 r0) [])
theorem rfail_lo (n : Nat) : ∀ c, Try.f33.body = some c → ∀ q ∈ loopsOf 0 c, ∀ L, (rfail_E (A := A) (rdelay_k n) n).lps.lookup q.1 = some L → LoopOK Try.prog gls q.2 L :=
  lo_body (E := rfail_E (rdelay_k n) n) (by kernel_rfl : Try.f33.body = some (bodyOf Try.f33)) (lo_of (E := rfail_E (rdelay_k n) n) (by kernel_rfl : loopsOf 0 (bodyOf Try.f33) = []) lo_nil)
theorem rfail_ok (n : Nat) : FnOK Try.prog gls 33 (rfail_ent (A := A) (rfail_k n)) :=
  FnOK.of (rfail_T (rdelay_k n) n) (rfail_fns n) follows ⟨Try.func33, by kernel_rfl⟩ (rfail_lo n) (rm := [.pure]) fun args k out h => by
    obtain ⟨a0, a1, e, h1⟩ := args2_sound h
    subst e; rw [rfail_eq]; exact h1

end Go.Ev
end

section
/-
  FUNCTION 31: printed by a program of our own (wip/gen/st.py). 'masthead/mastheadref24.Tick', in continuation form; the evaluator gives it.
-/
set_option linter.all false
set_option maxRecDepth 100000
namespace Go.Ev
open Go.Proofs
variable {A : Type}

-- ============================================================ rtick (function 31)
def rtick_p (g_rrest : (Int × (Int × (Bool × ((Int × ((List Int) × (Int × Unit))) × (Int × ((List (Int × ((List Int) × (Int × Unit)))) × (Int × (Int × (Int × (Bool × Unit)))))))))) → ((Int × (Int × (Bool × ((Int × ((List Int) × (Int × Unit))) × (Int × ((List (Int × ((List Int) × (Int × Unit)))) × (Int × (Int × (Int × (Bool × Unit)))))))))) → Option A) → Option A) (g_rfail : (Int × (Int × (Bool × ((Int × ((List Int) × (Int × Unit))) × (Int × ((List (Int × ((List Int) × (Int × Unit)))) × (Int × (Int × (Int × (Bool × Unit)))))))))) → Int → ((Int × (Int × (Bool × ((Int × ((List Int) × (Int × Unit))) × (Int × ((List (Int × ((List Int) × (Int × Unit)))) × (Int × (Int × (Int × (Bool × Unit)))))))))) → Option A) → Option A) (n : Nat) (a0 : (Int × (Int × (Bool × ((Int × ((List Int) × (Int × Unit))) × (Int × ((List (Int × ((List Int) × (Int × Unit)))) × (Int × (Int × (Int × (Bool × Unit))))))))))) (a1 : Int) (k : (Int × (Int × (Bool × ((Int × ((List Int) × (Int × Unit))) × (Int × ((List (Int × ((List Int) × (Int × Unit)))) × (Int × (Int × (Int × (Bool × Unit)))))))))) → (Int × ((List Int) × (Int × Unit))) → Bool → Option A) : Option A :=
  bif (!a0.2.2.1) then
    k a0 (0, ((List.replicate 32 (0 : Int)), (0, ()))) false
  else
    bif (decide (a1 < a0.2.2.2.2.1)) then
      k a0 (0, ((List.replicate 32 (0 : Int)), (0, ()))) false
    else
      if (0 + a0.2.2.2.2.2.1.length) * 48 ≤ 140737488355328 then
        if (a0.2.2.2.2.2.1.length + 1) * 48 ≤ 140737488355328 then
          g_rrest (a0.1, (a0.2.1, (a0.2.2.1, (a0.2.2.2.1, (a0.2.2.2.2.1, ((a0.2.2.2.2.2.1 ++ [a0.2.2.2.1]), a0.2.2.2.2.2.2)))))) fun r1 =>
          g_rfail r1 a1 fun r2 =>
          k r2 a0.2.2.2.1 true
        else none
      else none

def rtick_k (n : Nat) (a0 : (Int × (Int × (Bool × ((Int × ((List Int) × (Int × Unit))) × (Int × ((List (Int × ((List Int) × (Int × Unit)))) × (Int × (Int × (Int × (Bool × Unit))))))))))) (a1 : Int) (k : (Int × (Int × (Bool × ((Int × ((List Int) × (Int × Unit))) × (Int × ((List (Int × ((List Int) × (Int × Unit)))) × (Int × (Int × (Int × (Bool × Unit)))))))))) → (Int × ((List Int) × (Int × Unit))) → Bool → Option A) : Option A := rtick_p (rrest_k n) (rfail_k n) n a0 a1 k

noncomputable def rtick_E (g_rrest : (Int × (Int × (Bool × ((Int × ((List Int) × (Int × Unit))) × (Int × ((List (Int × ((List Int) × (Int × Unit)))) × (Int × (Int × (Int × (Bool × Unit)))))))))) → ((Int × (Int × (Bool × ((Int × ((List Int) × (Int × Unit))) × (Int × ((List (Int × ((List Int) × (Int × Unit)))) × (Int × (Int × (Int × (Bool × Unit)))))))))) → Option A) → Option A) (g_rfail : (Int × (Int × (Bool × ((Int × ((List Int) × (Int × Unit))) × (Int × ((List (Int × ((List Int) × (Int × Unit)))) × (Int × (Int × (Int × (Bool × Unit)))))))))) → Int → ((Int × (Int × (Bool × ((Int × ((List Int) × (Int × Unit))) × (Int × ((List (Int × ((List Int) × (Int × Unit)))) × (Int × (Int × (Int × (Bool × Unit)))))))))) → Option A) → Option A) (n : Nat) : Env A := ⟨tys, gls, [(41, rrest_ent g_rrest), (33, rfail_ent g_rfail)], [], []⟩
theorem rtick_T (g_rrest : (Int × (Int × (Bool × ((Int × ((List Int) × (Int × Unit))) × (Int × ((List (Int × ((List Int) × (Int × Unit)))) × (Int × (Int × (Int × (Bool × Unit)))))))))) → ((Int × (Int × (Bool × ((Int × ((List Int) × (Int × Unit))) × (Int × ((List (Int × ((List Int) × (Int × Unit)))) × (Int × (Int × (Int × (Bool × Unit)))))))))) → Option A) → Option A) (g_rfail : (Int × (Int × (Bool × ((Int × ((List Int) × (Int × Unit))) × (Int × ((List (Int × ((List Int) × (Int × Unit)))) × (Int × (Int × (Int × (Bool × Unit)))))))))) → Int → ((Int × (Int × (Bool × ((Int × ((List Int) × (Int × Unit))) × (Int × ((List (Int × ((List Int) × (Int × Unit)))) × (Int × (Int × (Int × (Bool × Unit)))))))))) → Option A) → Option A) (n : Nat) : TyOK Try.prog (rtick_E g_rrest g_rfail n) := tyOK_of rfl tysB
theorem rtick_fns (n : Nat) : FnsOK Try.prog (rtick_E (A := A) (rrest_k n) (rfail_k n) n) := AllOK.env rfl rfl (AllOK.cons (rrest_ok n) (AllOK.cons (rfail_ok n) AllOK.nil))
theorem rtick_eqg (g_rrest : (Int × (Int × (Bool × ((Int × ((List Int) × (Int × Unit))) × (Int × ((List (Int × ((List Int) × (Int × Unit)))) × (Int × (Int × (Int × (Bool × Unit)))))))))) → ((Int × (Int × (Bool × ((Int × ((List Int) × (Int × Unit))) × (Int × ((List (Int × ((List Int) × (Int × Unit)))) × (Int × (Int × (Int × (Bool × Unit)))))))))) → Option A) → Option A) (g_rfail : (Int × (Int × (Bool × ((Int × ((List Int) × (Int × Unit))) × (Int × ((List (Int × ((List Int) × (Int × Unit)))) × (Int × (Int × (Int × (Bool × Unit)))))))))) → Int → ((Int × (Int × (Bool × ((Int × ((List Int) × (Int × Unit))) × (Int × ((List (Int × ((List Int) × (Int × Unit)))) × (Int × (Int × (Int × (Bool × Unit)))))))))) → Option A) → Option A) (n : Nat) (a0 : (Int × (Int × (Bool × ((Int × ((List Int) × (Int × Unit))) × (Int × ((List (Int × ((List Int) × (Int × Unit)))) × (Int × (Int × (Int × (Bool × Unit))))))))))) (a1 : Int) (k : AV → List Blk → Option A) : fnK (rtick_E g_rrest g_rfail n) Try.f31 [.pure, .pure, .pure] [.p kT53 a0, .p (.int .i64) a1] [] k = rtick_p g_rrest g_rfail n a0 a1 (fun r0 r1 r2 => k (.tup [.p kT53 r0, .p kT38 r1, .p .bool r2]) []) := by kernel_rfl
theorem rtick_eq (n : Nat) (a0 : (Int × (Int × (Bool × ((Int × ((List Int) × (Int × Unit))) × (Int × ((List (Int × ((List Int) × (Int × Unit)))) × (Int × (Int × (Int × (Bool × Unit))))))))))) (a1 : Int) (k : AV → List Blk → Option A) : fnK (rtick_E (rrest_k n) (rfail_k n) n) Try.f31 [.pure, .pure, .pure] [.p kT53 a0, .p (.int .i64) a1] [] k = rtick_k n a0 a1 (fun r0 r1 r2 => k (.tup [.p kT53 r0, .p kT38 r1, .p .bool r2]) []) := rtick_eqg (rrest_k n) (rfail_k n) n a0 a1 k
def rtick_ent (g : (Int × (Int × (Bool × ((Int × ((List Int) × (Int × Unit))) × (Int × ((List (Int × ((List Int) × (Int × Unit)))) × (Int × (Int × (Int × (Bool × Unit)))))))))) → Int → ((Int × (Int × (Bool × ((Int × ((List Int) × (Int × Unit))) × (Int × ((List (Int × ((List Int) × (Int × Unit)))) × (Int × (Int × (Int × (Bool × Unit)))))))))) → (Int × ((List Int) × (Int × Unit))) → Bool → Option A) → Option A) : Entry A := pureE fun args k => args2 args kT53 (.int .i64) fun a0 a1 => g a0 a1 (fun r0 r1 r2 => k (.tup [.p kT53 r0, .p kT38 r1, .p .bool r2]) [])
theorem rtick_lo (n : Nat) : ∀ c, Try.f31.body = some c → ∀ q ∈ loopsOf 0 c, ∀ L, (rtick_E (A := A) (rrest_k n) (rfail_k n) n).lps.lookup q.1 = some L → LoopOK Try.prog gls q.2 L :=
  lo_body (E := rtick_E (rrest_k n) (rfail_k n) n) (by kernel_rfl : Try.f31.body = some (bodyOf Try.f31)) (lo_of (E := rtick_E (rrest_k n) (rfail_k n) n) (by kernel_rfl : loopsOf 0 (bodyOf Try.f31) = []) lo_nil)
theorem rtick_ok (n : Nat) : FnOK Try.prog gls 31 (rtick_ent (A := A) (rtick_k n)) :=
  FnOK.of (rtick_T (rrest_k n) (rfail_k n) n) (rtick_fns n) follows ⟨Try.func31, by kernel_rfl⟩ (rtick_lo n) (rm := [.pure, .pure, .pure]) fun args k out h => by
    obtain ⟨a0, a1, e, h1⟩ := args2_sound h
    subst e; rw [rtick_eq]; exact h1

end Go.Ev
end

section
/-
  FUNCTION 27: printed by a program of our own (wip/gen/st.py). '(*masthead/peer.Peer).rest', in continuation form; the evaluator gives it.
-/
set_option linter.all false
set_option maxRecDepth 100000
namespace Go.Ev
open Go.Proofs
variable {A : Type}

-- ============================================================ rest (function 27)
def rest_p (n : Nat) (pa : Int) (pba : Int) (pbba : (Int × ((List Int) × (Int × Unit)))) (pbbba : Int) (pbbbba : Bool) (pbbbbbb : (Int × (Int × (Int × (Bool × Unit))))) (pbbbbba : (List ((Int × ((List Int) × (Int × Unit))) × Int))) (k : Int → Int → (Int × ((List Int) × (Int × Unit))) → Int → Bool → (Int × (Int × (Int × (Bool × Unit)))) → (List ((Int × ((List Int) × (Int × Unit))) × Int)) → Option A) : Option A :=
  k pa pba (0, ((List.replicate 32 (0 : Int)), (0, ()))) 0 false pbbbbbb pbbbbba

def rest_k (n : Nat) (pa : Int) (pba : Int) (pbba : (Int × ((List Int) × (Int × Unit)))) (pbbba : Int) (pbbbba : Bool) (pbbbbbb : (Int × (Int × (Int × (Bool × Unit))))) (pbbbbba : (List ((Int × ((List Int) × (Int × Unit))) × Int))) (k : Int → Int → (Int × ((List Int) × (Int × Unit))) → Int → Bool → (Int × (Int × (Int × (Bool × Unit)))) → (List ((Int × ((List Int) × (Int × Unit))) × Int)) → Option A) : Option A := rest_p n pa pba pbba pbbba pbbbba pbbbbbb pbbbbba k

noncomputable def rest_E (n : Nat) : Env A := ⟨tys, gls, [], [], []⟩
theorem rest_T {A : Type} (n : Nat) : TyOK Try.prog (rest_E (A := A) n) := tyOK_of rfl tysB
theorem rest_fns (n : Nat) : FnsOK Try.prog (rest_E (A := A) n) := AllOK.env rfl rfl AllOK.nil
theorem rest_eqg (n : Nat) (pa : Int) (pba : Int) (pbba : (Int × ((List Int) × (Int × Unit)))) (pbbba : Int) (pbbbba : Bool) (pbbbbbb : (Int × (Int × (Int × (Bool × Unit))))) (pbbbbba : (List ((Int × ((List Int) × (Int × Unit))) × Int))) (k : AV → List Blk → Option A) : fnK (rest_E n) Try.f27 [] [.ptr 0 []] [.var 63 kT62 (.pr (.p (.int .i64) pa) (.pr (.p (.int .i64) pba) (.pr (.p kT38 pbba) (.pr (.p (.int .i64) pbbba) (.pr (.p .bool pbbbba) (.pr (.mp 1) (.p (.pair (.int .i64) (.pair (.int .i64) (.pair (.int .i64) (.pair .bool .unit)))) pbbbbbb))))))), .map kT38 (.int .i64) pbbbbba] k = rest_p n pa pba pbba pbbba pbbbba pbbbbbb pbbbbba (fun r0 r1 r2 r3 r4 r5 r6 => k (.tup []) [.var 63 kT62 (.pr (.p (.int .i64) r0) (.pr (.p (.int .i64) r1) (.pr (.p kT38 r2) (.pr (.p (.int .i64) r3) (.pr (.p .bool r4) (.pr (.mp 1) (.p (.pair (.int .i64) (.pair (.int .i64) (.pair (.int .i64) (.pair .bool .unit)))) r5))))))), .map kT38 (.int .i64) r6]) := by kernel_rfl
theorem rest_eq (n : Nat) (pa : Int) (pba : Int) (pbba : (Int × ((List Int) × (Int × Unit)))) (pbbba : Int) (pbbbba : Bool) (pbbbbbb : (Int × (Int × (Int × (Bool × Unit))))) (pbbbbba : (List ((Int × ((List Int) × (Int × Unit))) × Int))) (k : AV → List Blk → Option A) : fnK (rest_E n) Try.f27 [] [.ptr 0 []] [.var 63 kT62 (.pr (.p (.int .i64) pa) (.pr (.p (.int .i64) pba) (.pr (.p kT38 pbba) (.pr (.p (.int .i64) pbbba) (.pr (.p .bool pbbbba) (.pr (.mp 1) (.p (.pair (.int .i64) (.pair (.int .i64) (.pair (.int .i64) (.pair .bool .unit)))) pbbbbbb))))))), .map kT38 (.int .i64) pbbbbba] k = rest_k n pa pba pbba pbbba pbbbba pbbbbbb pbbbbba (fun r0 r1 r2 r3 r4 r5 r6 => k (.tup []) [.var 63 kT62 (.pr (.p (.int .i64) r0) (.pr (.p (.int .i64) r1) (.pr (.p kT38 r2) (.pr (.p (.int .i64) r3) (.pr (.p .bool r4) (.pr (.mp 1) (.p (.pair (.int .i64) (.pair (.int .i64) (.pair (.int .i64) (.pair .bool .unit)))) r5))))))), .map kT38 (.int .i64) r6]) := rest_eqg n pa pba pbba pbbba pbbbba pbbbbbb pbbbbba k
def rest_sh : Shape := ⟨[(.ptr 0)], [(.var 63 kT62 (.pr (.p (.int .i64)) (.pr (.p (.int .i64)) (.pr (.p kT38) (.pr (.p (.int .i64)) (.pr (.p .bool) (.pr (.mp 1) (.p (.pair (.int .i64) (.pair (.int .i64) (.pair (.int .i64) (.pair .bool .unit)))))))))))), (.map kT38 (.int .i64))], 2⟩
def rest_ent (g : Int → Int → (Int × ((List Int) × (Int × Unit))) → Int → Bool → (Int × (Int × (Int × (Bool × Unit)))) → (List ((Int × ((List Int) × (Int × Unit))) × Int)) → (Int → Int → (Int × ((List Int) × (Int × Unit))) → Int → Bool → (Int × (Int × (Int × (Bool × Unit)))) → (List ((Int × ((List Int) × (Int × Unit))) × Int)) → Option A) → Option A) : Entry A := ownE [true] rest_sh fun d k => g d.2.1.1 d.2.1.2.1 d.2.1.2.2.1 d.2.1.2.2.2.1 d.2.1.2.2.2.2.1 d.2.1.2.2.2.2.2.2 d.2.2.1 (fun r0 r1 r2 r3 r4 r5 r6 => k (.tup []) [.var 63 kT62 (.pr (.p (.int .i64) r0) (.pr (.p (.int .i64) r1) (.pr (.p kT38 r2) (.pr (.p (.int .i64) r3) (.pr (.p .bool r4) (.pr (.mp 1) (.p (.pair (.int .i64) (.pair (.int .i64) (.pair (.int .i64) (.pair .bool .unit)))) r5))))))), .map kT38 (.int .i64) r6])
theorem rest_lo (n : Nat) : ∀ c, Try.f27.body = some c → ∀ q ∈ loopsOf 0 c, ∀ L, (rest_E (A := A) n).lps.lookup q.1 = some L → LoopOK Try.prog gls q.2 L :=
  lo_body (E := rest_E n) (by kernel_rfl : Try.f27.body = some (bodyOf Try.f27)) (lo_of (E := rest_E n) (by kernel_rfl : loopsOf 0 (bodyOf Try.f27) = []) lo_nil)
theorem rest_ok (n : Nat) : FnOK Try.prog gls 27 (rest_ent (A := A) (rest_k n)) :=
  FnOK.ofOwn (rest_T n) (rest_fns n) follows ⟨Try.func27, by kernel_rfl⟩ (rest_lo n) (rm := []) (S := rest_sh) fun d k => Eq.trans (by kernel_rfl) (rest_eq n d.2.1.1 d.2.1.2.1 d.2.1.2.2.1 d.2.1.2.2.2.1 d.2.1.2.2.2.2.1 d.2.1.2.2.2.2.2.2 d.2.2.1 k)

end Go.Ev
end

section
/-
  FUNCTION 28: printed by a program of our own (wip/gen/st.py). '(*masthead/peer.Peer).Fail', in continuation form; the evaluator gives it.
-/
set_option linter.all false
set_option maxRecDepth 100000
namespace Go.Ev
open Go.Proofs
variable {A : Type}

-- ============================================================ fail (function 28)
def fail_p (g_delay : Int → Int → Int → (Int → Option A) → Option A) (n : Nat) (now : Int) (pa : Int) (pba : Int) (pbba : (Int × ((List Int) × (Int × Unit)))) (pbbba : Int) (pbbbba : Bool) (pbbbbbb : (Int × (Int × (Int × (Bool × Unit))))) (pbbbbba : (List ((Int × ((List Int) × (Int × Unit))) × Int))) (k : Int → Int → (Int × ((List Int) × (Int × Unit))) → Int → Bool → (Int × (Int × (Int × (Bool × Unit)))) → (List ((Int × ((List Int) × (Int × Unit))) × Int)) → Option A) : Option A :=
  g_delay pa pba (IntKind.wrap .i64 (pbbbbbb.1 + 1)) fun r1 =>
  k pa pba pbba pbbba pbbbba ((IntKind.wrap .i64 (pbbbbbb.1 + 1)), ((IntKind.wrap .i64 (now + r1)), pbbbbbb.2.2)) pbbbbba

def fail_k (n : Nat) (now : Int) (pa : Int) (pba : Int) (pbba : (Int × ((List Int) × (Int × Unit)))) (pbbba : Int) (pbbbba : Bool) (pbbbbbb : (Int × (Int × (Int × (Bool × Unit))))) (pbbbbba : (List ((Int × ((List Int) × (Int × Unit))) × Int))) (k : Int → Int → (Int × ((List Int) × (Int × Unit))) → Int → Bool → (Int × (Int × (Int × (Bool × Unit)))) → (List ((Int × ((List Int) × (Int × Unit))) × Int)) → Option A) : Option A := fail_p (delay_k n) n now pa pba pbba pbbba pbbbba pbbbbbb pbbbbba k

noncomputable def fail_E (g_delay : Int → Int → Int → (Int → Option A) → Option A) (n : Nat) : Env A := ⟨tys, gls, [(8, delay_ent g_delay)], [], []⟩
theorem fail_T (g_delay : Int → Int → Int → (Int → Option A) → Option A) (n : Nat) : TyOK Try.prog (fail_E g_delay n) := tyOK_of rfl tysB
theorem fail_fns (n : Nat) : FnsOK Try.prog (fail_E (A := A) (delay_k n) n) := AllOK.env rfl rfl (AllOK.cons (delay_ok n) AllOK.nil)
theorem fail_eqg (g_delay : Int → Int → Int → (Int → Option A) → Option A) (n : Nat) (now : Int) (pa : Int) (pba : Int) (pbba : (Int × ((List Int) × (Int × Unit)))) (pbbba : Int) (pbbbba : Bool) (pbbbbbb : (Int × (Int × (Int × (Bool × Unit))))) (pbbbbba : (List ((Int × ((List Int) × (Int × Unit))) × Int))) (k : AV → List Blk → Option A) : fnK (fail_E g_delay n) Try.f28 [] [.ptr 0 [], .p (.int .i64) now] [.var 63 kT62 (.pr (.p (.int .i64) pa) (.pr (.p (.int .i64) pba) (.pr (.p kT38 pbba) (.pr (.p (.int .i64) pbbba) (.pr (.p .bool pbbbba) (.pr (.mp 1) (.p (.pair (.int .i64) (.pair (.int .i64) (.pair (.int .i64) (.pair .bool .unit)))) pbbbbbb))))))), .map kT38 (.int .i64) pbbbbba] k = fail_p g_delay n now pa pba pbba pbbba pbbbba pbbbbbb pbbbbba (fun r0 r1 r2 r3 r4 r5 r6 => k (.tup []) [.var 63 kT62 (.pr (.p (.int .i64) r0) (.pr (.p (.int .i64) r1) (.pr (.p kT38 r2) (.pr (.p (.int .i64) r3) (.pr (.p .bool r4) (.pr (.mp 1) (.p (.pair (.int .i64) (.pair (.int .i64) (.pair (.int .i64) (.pair .bool .unit)))) r5))))))), .map kT38 (.int .i64) r6]) := by kernel_rfl
theorem fail_eq (n : Nat) (now : Int) (pa : Int) (pba : Int) (pbba : (Int × ((List Int) × (Int × Unit)))) (pbbba : Int) (pbbbba : Bool) (pbbbbbb : (Int × (Int × (Int × (Bool × Unit))))) (pbbbbba : (List ((Int × ((List Int) × (Int × Unit))) × Int))) (k : AV → List Blk → Option A) : fnK (fail_E (delay_k n) n) Try.f28 [] [.ptr 0 [], .p (.int .i64) now] [.var 63 kT62 (.pr (.p (.int .i64) pa) (.pr (.p (.int .i64) pba) (.pr (.p kT38 pbba) (.pr (.p (.int .i64) pbbba) (.pr (.p .bool pbbbba) (.pr (.mp 1) (.p (.pair (.int .i64) (.pair (.int .i64) (.pair (.int .i64) (.pair .bool .unit)))) pbbbbbb))))))), .map kT38 (.int .i64) pbbbbba] k = fail_k n now pa pba pbba pbbba pbbbba pbbbbbb pbbbbba (fun r0 r1 r2 r3 r4 r5 r6 => k (.tup []) [.var 63 kT62 (.pr (.p (.int .i64) r0) (.pr (.p (.int .i64) r1) (.pr (.p kT38 r2) (.pr (.p (.int .i64) r3) (.pr (.p .bool r4) (.pr (.mp 1) (.p (.pair (.int .i64) (.pair (.int .i64) (.pair (.int .i64) (.pair .bool .unit)))) r5))))))), .map kT38 (.int .i64) r6]) := fail_eqg (delay_k n) n now pa pba pbba pbbba pbbbba pbbbbbb pbbbbba k
def fail_sh : Shape := ⟨[(.ptr 0), (.p (.int .i64))], [(.var 63 kT62 (.pr (.p (.int .i64)) (.pr (.p (.int .i64)) (.pr (.p kT38) (.pr (.p (.int .i64)) (.pr (.p .bool) (.pr (.mp 1) (.p (.pair (.int .i64) (.pair (.int .i64) (.pair (.int .i64) (.pair .bool .unit)))))))))))), (.map kT38 (.int .i64))], 2⟩
def fail_ent (g : Int → Int → Int → (Int × ((List Int) × (Int × Unit))) → Int → Bool → (Int × (Int × (Int × (Bool × Unit)))) → (List ((Int × ((List Int) × (Int × Unit))) × Int)) → (Int → Int → (Int × ((List Int) × (Int × Unit))) → Int → Bool → (Int × (Int × (Int × (Bool × Unit)))) → (List ((Int × ((List Int) × (Int × Unit))) × Int)) → Option A) → Option A) : Entry A := ownE [true, false] fail_sh fun d k => g d.1.2.1 d.2.1.1 d.2.1.2.1 d.2.1.2.2.1 d.2.1.2.2.2.1 d.2.1.2.2.2.2.1 d.2.1.2.2.2.2.2.2 d.2.2.1 (fun r0 r1 r2 r3 r4 r5 r6 => k (.tup []) [.var 63 kT62 (.pr (.p (.int .i64) r0) (.pr (.p (.int .i64) r1) (.pr (.p kT38 r2) (.pr (.p (.int .i64) r3) (.pr (.p .bool r4) (.pr (.mp 1) (.p (.pair (.int .i64) (.pair (.int .i64) (.pair (.int .i64) (.pair .bool .unit)))) r5))))))), .map kT38 (.int .i64) r6])
theorem fail_lo (n : Nat) : ∀ c, Try.f28.body = some c → ∀ q ∈ loopsOf 0 c, ∀ L, (fail_E (A := A) (delay_k n) n).lps.lookup q.1 = some L → LoopOK Try.prog gls q.2 L :=
  lo_body (E := fail_E (delay_k n) n) (by kernel_rfl : Try.f28.body = some (bodyOf Try.f28)) (lo_of (E := fail_E (delay_k n) n) (by kernel_rfl : loopsOf 0 (bodyOf Try.f28) = []) lo_nil)
theorem fail_ok (n : Nat) : FnOK Try.prog gls 28 (fail_ent (A := A) (fail_k n)) :=
  FnOK.ofOwn (fail_T (delay_k n) n) (fail_fns n) follows ⟨Try.func28, by kernel_rfl⟩ (fail_lo n) (rm := []) (S := fail_sh) fun d k => Eq.trans (by kernel_rfl) (fail_eq n d.1.2.1 d.2.1.1 d.2.1.2.1 d.2.1.2.2.1 d.2.1.2.2.2.1 d.2.1.2.2.2.2.1 d.2.1.2.2.2.2.2.2 d.2.2.1 k)

end Go.Ev
end

section
/-
  FUNCTION 16: printed by a program of our own (wip/gen/st.py). '(*masthead/peer.Peer).Tick', in continuation form; the evaluator gives it.
-/
set_option linter.all false
set_option maxRecDepth 100000
namespace Go.Ev
open Go.Proofs
variable {A : Type}

-- ============================================================ tick (function 16)
def tick_p (g_rest : Int → Int → (Int × ((List Int) × (Int × Unit))) → Int → Bool → (Int × (Int × (Int × (Bool × Unit)))) → (List ((Int × ((List Int) × (Int × Unit))) × Int)) → (Int → Int → (Int × ((List Int) × (Int × Unit))) → Int → Bool → (Int × (Int × (Int × (Bool × Unit)))) → (List ((Int × ((List Int) × (Int × Unit))) × Int)) → Option A) → Option A) (g_fail : Int → Int → Int → (Int × ((List Int) × (Int × Unit))) → Int → Bool → (Int × (Int × (Int × (Bool × Unit)))) → (List ((Int × ((List Int) × (Int × Unit))) × Int)) → (Int → Int → (Int × ((List Int) × (Int × Unit))) → Int → Bool → (Int × (Int × (Int × (Bool × Unit)))) → (List ((Int × ((List Int) × (Int × Unit))) × Int)) → Option A) → Option A) (n : Nat) (now : Int) (pa : Int) (pba : Int) (pbba : (Int × ((List Int) × (Int × Unit)))) (pbbba : Int) (pbbbba : Bool) (pbbbbbb : (Int × (Int × (Int × (Bool × Unit))))) (pbbbbba : (List ((Int × ((List Int) × (Int × Unit))) × Int))) (k : (Int × ((List Int) × (Int × Unit))) → Bool → Int → Int → (Int × ((List Int) × (Int × Unit))) → Int → Bool → (Int × (Int × (Int × (Bool × Unit)))) → (List ((Int × ((List Int) × (Int × Unit))) × Int)) → Option A) : Option A :=
  bif (!pbbbba) then
    k (0, ((List.replicate 32 (0 : Int)), (0, ()))) false pa pba pbba pbbba pbbbba pbbbbbb pbbbbba
  else
    bif (decide (now < pbbba)) then
      k (0, ((List.replicate 32 (0 : Int)), (0, ()))) false pa pba pbba pbbba pbbbba pbbbbbb pbbbbba
    else
      g_rest pa pba pbba pbbba pbbbba pbbbbbb (mset kT38 (mset kT38 pbbbbba pbba ((mget kT38 pbbbbba pbba).getD 0)) pbba (IntKind.wrap .i64 (((mget kT38 pbbbbba pbba).getD 0) + 1))) fun r1 r2 r3 r4 r5 r6 r7 =>
      g_fail now r1 r2 r3 r4 r5 r6 r7 fun r8 r9 r10 r11 r12 r13 r14 =>
      k pbba true r8 r9 r10 r11 r12 r13 r14

def tick_k (n : Nat) (now : Int) (pa : Int) (pba : Int) (pbba : (Int × ((List Int) × (Int × Unit)))) (pbbba : Int) (pbbbba : Bool) (pbbbbbb : (Int × (Int × (Int × (Bool × Unit))))) (pbbbbba : (List ((Int × ((List Int) × (Int × Unit))) × Int))) (k : (Int × ((List Int) × (Int × Unit))) → Bool → Int → Int → (Int × ((List Int) × (Int × Unit))) → Int → Bool → (Int × (Int × (Int × (Bool × Unit)))) → (List ((Int × ((List Int) × (Int × Unit))) × Int)) → Option A) : Option A := tick_p (rest_k n) (fail_k n) n now pa pba pbba pbbba pbbbba pbbbbbb pbbbbba k

noncomputable def tick_E (g_rest : Int → Int → (Int × ((List Int) × (Int × Unit))) → Int → Bool → (Int × (Int × (Int × (Bool × Unit)))) → (List ((Int × ((List Int) × (Int × Unit))) × Int)) → (Int → Int → (Int × ((List Int) × (Int × Unit))) → Int → Bool → (Int × (Int × (Int × (Bool × Unit)))) → (List ((Int × ((List Int) × (Int × Unit))) × Int)) → Option A) → Option A) (g_fail : Int → Int → Int → (Int × ((List Int) × (Int × Unit))) → Int → Bool → (Int × (Int × (Int × (Bool × Unit)))) → (List ((Int × ((List Int) × (Int × Unit))) × Int)) → (Int → Int → (Int × ((List Int) × (Int × Unit))) → Int → Bool → (Int × (Int × (Int × (Bool × Unit)))) → (List ((Int × ((List Int) × (Int × Unit))) × Int)) → Option A) → Option A) (n : Nat) : Env A := ⟨tys, gls, [(27, rest_ent g_rest), (28, fail_ent g_fail)], [], []⟩
theorem tick_T (g_rest : Int → Int → (Int × ((List Int) × (Int × Unit))) → Int → Bool → (Int × (Int × (Int × (Bool × Unit)))) → (List ((Int × ((List Int) × (Int × Unit))) × Int)) → (Int → Int → (Int × ((List Int) × (Int × Unit))) → Int → Bool → (Int × (Int × (Int × (Bool × Unit)))) → (List ((Int × ((List Int) × (Int × Unit))) × Int)) → Option A) → Option A) (g_fail : Int → Int → Int → (Int × ((List Int) × (Int × Unit))) → Int → Bool → (Int × (Int × (Int × (Bool × Unit)))) → (List ((Int × ((List Int) × (Int × Unit))) × Int)) → (Int → Int → (Int × ((List Int) × (Int × Unit))) → Int → Bool → (Int × (Int × (Int × (Bool × Unit)))) → (List ((Int × ((List Int) × (Int × Unit))) × Int)) → Option A) → Option A) (n : Nat) : TyOK Try.prog (tick_E g_rest g_fail n) := tyOK_of rfl tysB
theorem tick_fns (n : Nat) : FnsOK Try.prog (tick_E (A := A) (rest_k n) (fail_k n) n) := AllOK.env rfl rfl (AllOK.cons (rest_ok n) (AllOK.cons (fail_ok n) AllOK.nil))
theorem tick_eqg (g_rest : Int → Int → (Int × ((List Int) × (Int × Unit))) → Int → Bool → (Int × (Int × (Int × (Bool × Unit)))) → (List ((Int × ((List Int) × (Int × Unit))) × Int)) → (Int → Int → (Int × ((List Int) × (Int × Unit))) → Int → Bool → (Int × (Int × (Int × (Bool × Unit)))) → (List ((Int × ((List Int) × (Int × Unit))) × Int)) → Option A) → Option A) (g_fail : Int → Int → Int → (Int × ((List Int) × (Int × Unit))) → Int → Bool → (Int × (Int × (Int × (Bool × Unit)))) → (List ((Int × ((List Int) × (Int × Unit))) × Int)) → (Int → Int → (Int × ((List Int) × (Int × Unit))) → Int → Bool → (Int × (Int × (Int × (Bool × Unit)))) → (List ((Int × ((List Int) × (Int × Unit))) × Int)) → Option A) → Option A) (n : Nat) (now : Int) (pa : Int) (pba : Int) (pbba : (Int × ((List Int) × (Int × Unit)))) (pbbba : Int) (pbbbba : Bool) (pbbbbbb : (Int × (Int × (Int × (Bool × Unit))))) (pbbbbba : (List ((Int × ((List Int) × (Int × Unit))) × Int))) (k : AV → List Blk → Option A) : fnK (tick_E g_rest g_fail n) Try.f16 [.pure, .pure] [.ptr 0 [], .p (.int .i64) now] [.var 63 kT62 (.pr (.p (.int .i64) pa) (.pr (.p (.int .i64) pba) (.pr (.p kT38 pbba) (.pr (.p (.int .i64) pbbba) (.pr (.p .bool pbbbba) (.pr (.mp 1) (.p (.pair (.int .i64) (.pair (.int .i64) (.pair (.int .i64) (.pair .bool .unit)))) pbbbbbb))))))), .map kT38 (.int .i64) pbbbbba] k = tick_p g_rest g_fail n now pa pba pbba pbbba pbbbba pbbbbbb pbbbbba (fun r0 r1 r2 r3 r4 r5 r6 r7 r8 => k (.tup [.p kT38 r0, .p .bool r1]) [.var 63 kT62 (.pr (.p (.int .i64) r2) (.pr (.p (.int .i64) r3) (.pr (.p kT38 r4) (.pr (.p (.int .i64) r5) (.pr (.p .bool r6) (.pr (.mp 1) (.p (.pair (.int .i64) (.pair (.int .i64) (.pair (.int .i64) (.pair .bool .unit)))) r7))))))), .map kT38 (.int .i64) r8]) := by kernel_rfl
theorem tick_eq (n : Nat) (now : Int) (pa : Int) (pba : Int) (pbba : (Int × ((List Int) × (Int × Unit)))) (pbbba : Int) (pbbbba : Bool) (pbbbbbb : (Int × (Int × (Int × (Bool × Unit))))) (pbbbbba : (List ((Int × ((List Int) × (Int × Unit))) × Int))) (k : AV → List Blk → Option A) : fnK (tick_E (rest_k n) (fail_k n) n) Try.f16 [.pure, .pure] [.ptr 0 [], .p (.int .i64) now] [.var 63 kT62 (.pr (.p (.int .i64) pa) (.pr (.p (.int .i64) pba) (.pr (.p kT38 pbba) (.pr (.p (.int .i64) pbbba) (.pr (.p .bool pbbbba) (.pr (.mp 1) (.p (.pair (.int .i64) (.pair (.int .i64) (.pair (.int .i64) (.pair .bool .unit)))) pbbbbbb))))))), .map kT38 (.int .i64) pbbbbba] k = tick_k n now pa pba pbba pbbba pbbbba pbbbbbb pbbbbba (fun r0 r1 r2 r3 r4 r5 r6 r7 r8 => k (.tup [.p kT38 r0, .p .bool r1]) [.var 63 kT62 (.pr (.p (.int .i64) r2) (.pr (.p (.int .i64) r3) (.pr (.p kT38 r4) (.pr (.p (.int .i64) r5) (.pr (.p .bool r6) (.pr (.mp 1) (.p (.pair (.int .i64) (.pair (.int .i64) (.pair (.int .i64) (.pair .bool .unit)))) r7))))))), .map kT38 (.int .i64) r8]) := tick_eqg (rest_k n) (fail_k n) n now pa pba pbba pbbba pbbbba pbbbbbb pbbbbba k
def tick_sh : Shape := ⟨[(.ptr 0), (.p (.int .i64))], [(.var 63 kT62 (.pr (.p (.int .i64)) (.pr (.p (.int .i64)) (.pr (.p kT38) (.pr (.p (.int .i64)) (.pr (.p .bool) (.pr (.mp 1) (.p (.pair (.int .i64) (.pair (.int .i64) (.pair (.int .i64) (.pair .bool .unit)))))))))))), (.map kT38 (.int .i64))], 2⟩
def tick_ent (g : Int → Int → Int → (Int × ((List Int) × (Int × Unit))) → Int → Bool → (Int × (Int × (Int × (Bool × Unit)))) → (List ((Int × ((List Int) × (Int × Unit))) × Int)) → ((Int × ((List Int) × (Int × Unit))) → Bool → Int → Int → (Int × ((List Int) × (Int × Unit))) → Int → Bool → (Int × (Int × (Int × (Bool × Unit)))) → (List ((Int × ((List Int) × (Int × Unit))) × Int)) → Option A) → Option A) : Entry A := ownE [true, false] tick_sh fun d k => g d.1.2.1 d.2.1.1 d.2.1.2.1 d.2.1.2.2.1 d.2.1.2.2.2.1 d.2.1.2.2.2.2.1 d.2.1.2.2.2.2.2.2 d.2.2.1 (fun r0 r1 r2 r3 r4 r5 r6 r7 r8 => k (.tup [.p kT38 r0, .p .bool r1]) [.var 63 kT62 (.pr (.p (.int .i64) r2) (.pr (.p (.int .i64) r3) (.pr (.p kT38 r4) (.pr (.p (.int .i64) r5) (.pr (.p .bool r6) (.pr (.mp 1) (.p (.pair (.int .i64) (.pair (.int .i64) (.pair (.int .i64) (.pair .bool .unit)))) r7))))))), .map kT38 (.int .i64) r8])
theorem tick_lo (n : Nat) : ∀ c, Try.f16.body = some c → ∀ q ∈ loopsOf 0 c, ∀ L, (tick_E (A := A) (rest_k n) (fail_k n) n).lps.lookup q.1 = some L → LoopOK Try.prog gls q.2 L :=
  lo_body (E := tick_E (rest_k n) (fail_k n) n) (by kernel_rfl : Try.f16.body = some (bodyOf Try.f16)) (lo_of (E := tick_E (rest_k n) (fail_k n) n) (by kernel_rfl : loopsOf 0 (bodyOf Try.f16) = []) lo_nil)
theorem tick_ok (n : Nat) : FnOK Try.prog gls 16 (tick_ent (A := A) (tick_k n)) :=
  FnOK.ofOwn (tick_T (rest_k n) (fail_k n) n) (tick_fns n) follows ⟨Try.func16, by kernel_rfl⟩ (tick_lo n) (rm := [.pure, .pure]) (S := tick_sh) fun d k => Eq.trans (by kernel_rfl) (tick_eq n d.1.2.1 d.2.1.1 d.2.1.2.1 d.2.1.2.2.1 d.2.1.2.2.2.1 d.2.1.2.2.2.2.1 d.2.1.2.2.2.2.2.2 d.2.2.1 k)

end Go.Ev
end

section
/-
  FUNCTION 32: printed by a program of our own (wip/gen/st.py). 'masthead/mastheadref24.Match', in continuation form; the evaluator gives it.
-/
set_option linter.all false
set_option maxRecDepth 100000
namespace Go.Ev
open Go.Proofs
variable {A : Type}

-- ============================================================ rmatch (function 32)
def rmatch_b0 (g_rrest : (Int × (Int × (Bool × ((Int × ((List Int) × (Int × Unit))) × (Int × ((List (Int × ((List Int) × (Int × Unit)))) × (Int × (Int × (Int × (Bool × Unit)))))))))) → ((Int × (Int × (Bool × ((Int × ((List Int) × (Int × Unit))) × (Int × ((List (Int × ((List Int) × (Int × Unit)))) × (Int × (Int × (Int × (Bool × Unit)))))))))) → Option A) → Option A) (n : Nat) (p : (Int × (Int × (Bool × ((Int × ((List Int) × (Int × Unit))) × (Int × ((List (Int × ((List Int) × (Int × Unit)))) × (Int × (Int × (Int × (Bool × Unit))))))))))) (k_ : (Int × ((List Int) × (Int × Unit)))) (t4 : (Int × (Int × (Bool × ((Int × ((List Int) × (Int × Unit))) × (Int × ((List (Int × ((List Int) × (Int × Unit)))) × (Int × (Int × (Int × (Bool × Unit))))))))))) (k0 : (List (Int × ((List Int) × (Int × Unit)))) → Option A) (k1 : Option A) (r : Int → Option A) (i : Int) : Option A :=
  bif (decide (i < (p.2.2.2.2.2.1.length : Int))) then
    if 0 ≤ i then
      (p.2.2.2.2.2.1[(Int.toNat i)]?).bind fun y2 =>
      bif (deq kT38 y2 k_) then
        if 0 ≤ i then
          if i ≤ (p.2.2.2.2.2.1.length : Int) then
            if (0 + ((p.2.2.2.2.2.1.drop 0).take ((Int.toNat i) - 0)).length) * 48 ≤ 140737488355328 then
              if 0 ≤ (IntKind.wrap .i64 (i + 1)) then
                if (IntKind.wrap .i64 (i + 1)) ≤ (p.2.2.2.2.2.1.length : Int) then
                  if (((p.2.2.2.2.2.1.drop 0).take ((Int.toNat i) - 0)).length + ((p.2.2.2.2.2.1.drop (Int.toNat (IntKind.wrap .i64 (i + 1)))).take (p.2.2.2.2.2.1.length - (Int.toNat (IntKind.wrap .i64 (i + 1))))).length) * 48 ≤ 140737488355328 then
                    k0 (((p.2.2.2.2.2.1.drop 0).take ((Int.toNat i) - 0)) ++ ((p.2.2.2.2.2.1.drop (Int.toNat (IntKind.wrap .i64 (i + 1)))).take (p.2.2.2.2.2.1.length - (Int.toNat (IntKind.wrap .i64 (i + 1))))))
                  else none
                else none
              else none
            else none
          else none
        else none
      else
        r (IntKind.wrap .i64 (i + 1))
    else none
  else
    k1

def rmatch_l0 (g_rrest : (Int × (Int × (Bool × ((Int × ((List Int) × (Int × Unit))) × (Int × ((List (Int × ((List Int) × (Int × Unit)))) × (Int × (Int × (Int × (Bool × Unit)))))))))) → ((Int × (Int × (Bool × ((Int × ((List Int) × (Int × Unit))) × (Int × ((List (Int × ((List Int) × (Int × Unit)))) × (Int × (Int × (Int × (Bool × Unit)))))))))) → Option A) → Option A) (n : Nat) (p : (Int × (Int × (Bool × ((Int × ((List Int) × (Int × Unit))) × (Int × ((List (Int × ((List Int) × (Int × Unit)))) × (Int × (Int × (Int × (Bool × Unit))))))))))) (k_ : (Int × ((List Int) × (Int × Unit)))) (t4 : (Int × (Int × (Bool × ((Int × ((List Int) × (Int × Unit))) × (Int × ((List (Int × ((List Int) × (Int × Unit)))) × (Int × (Int × (Int × (Bool × Unit))))))))))) (k0 : (List (Int × ((List Int) × (Int × Unit)))) → Option A) (k1 : Option A) : Nat → Int → Option A
  | 0 => fun _ => none
  | f + 1 => rmatch_b0 g_rrest n p k_ t4 k0 k1 (rmatch_l0 g_rrest n p k_ t4 k0 k1 f)

def rmatch_p (g_rrest : (Int × (Int × (Bool × ((Int × ((List Int) × (Int × Unit))) × (Int × ((List (Int × ((List Int) × (Int × Unit)))) × (Int × (Int × (Int × (Bool × Unit)))))))))) → ((Int × (Int × (Bool × ((Int × ((List Int) × (Int × Unit))) × (Int × ((List (Int × ((List Int) × (Int × Unit)))) × (Int × (Int × (Int × (Bool × Unit)))))))))) → Option A) → Option A) (n : Nat) (a0 : (Int × (Int × (Bool × ((Int × ((List Int) × (Int × Unit))) × (Int × ((List (Int × ((List Int) × (Int × Unit)))) × (Int × (Int × (Int × (Bool × Unit))))))))))) (a1 : (Int × ((List Int) × (Int × Unit)))) (k : (Int × (Int × (Bool × ((Int × ((List Int) × (Int × Unit))) × (Int × ((List (Int × ((List Int) × (Int × Unit)))) × (Int × (Int × (Int × (Bool × Unit)))))))))) → Int → Option A) : Option A :=
  bif a0.2.2.1 then
    bif (deq kT38 a0.2.2.2.1 a1) then
      g_rrest a0 fun r1 =>
      k (r1.1, (r1.2.1, (r1.2.2.1, (r1.2.2.2.1, (r1.2.2.2.2.1, (r1.2.2.2.2.2.1, (0, r1.2.2.2.2.2.2.2))))))) 1
    else
      rmatch_l0 g_rrest n a0 a1 (0, (0, (false, ((0, ((List.replicate 32 (0 : Int)), (0, ()))), (0, ([], (0, (0, (0, (false, ())))))))))) (fun y3 =>
        k (a0.1, (a0.2.1, (a0.2.2.1, (a0.2.2.2.1, (a0.2.2.2.2.1, (y3, a0.2.2.2.2.2.2)))))) 2) (
        k a0 0) n 0
  else
    rmatch_l0 g_rrest n a0 a1 (0, (0, (false, ((0, ((List.replicate 32 (0 : Int)), (0, ()))), (0, ([], (0, (0, (0, (false, ())))))))))) (fun y4 =>
      k (a0.1, (a0.2.1, (a0.2.2.1, (a0.2.2.2.1, (a0.2.2.2.2.1, (y4, a0.2.2.2.2.2.2)))))) 2) (
      k a0 0) n 0

def rmatch_k (n : Nat) (a0 : (Int × (Int × (Bool × ((Int × ((List Int) × (Int × Unit))) × (Int × ((List (Int × ((List Int) × (Int × Unit)))) × (Int × (Int × (Int × (Bool × Unit))))))))))) (a1 : (Int × ((List Int) × (Int × Unit)))) (k : (Int × (Int × (Bool × ((Int × ((List Int) × (Int × Unit))) × (Int × ((List (Int × ((List Int) × (Int × Unit)))) × (Int × (Int × (Int × (Bool × Unit)))))))))) → Int → Option A) : Option A := rmatch_p (rrest_k n) n a0 a1 k

noncomputable def rmatch_c0 : Code := codeAt [1, 1, 0, 1, 0, 0] (bodyOf Try.f32)
def rmatch_d0 : List Nat := [0, 1, 5, 7, 8, 9, 10, 11, 12, 13, 14, 15, 20, 21, 22, 23, 24, 25, 26, 27, 28, 29, 30, 31, 32, 33, 34, 35, 36, 37, 38, 39, 40, 41, 42, 43, 44, 45, 46, 47, 48]
def rmatch_y0 : List Nat := [0, 1, 3, 6, 7, 8, 9, 10, 11, 12, 13, 14, 15, 16, 17, 18, 19, 20, 21, 22, 23, 24, 25, 26, 27, 28, 29, 30, 31, 32, 33, 34, 35, 36, 37, 38, 39, 40, 41, 42, 43, 44, 45, 46, 47, 48, 49]
def rmatch_sh0 : Shape := ⟨[.any, .any, (.ptr 0), (.ptr 1), (.ptr 2), .any, (.p (.int .i64)), .any, .any, .any, .any, .any, .any, .any, .any, .any, .any, .any, .any, .any, .any, .any, .any, .any, .any, .any, .any, .any, .any, .any, .any, .any, .any, .any, .any, .any, .any, .any, .any, .any, .any, .any, .any, .any, .any, .any, .any, .any, .any, .any], [(.var 54 kT53 (.p kT53)), (.var 51 kT38 (.p kT38)), (.var 54 kT53 (.p kT53))], 0⟩
def rmatch_x0_0 (p : (Int × (Int × (Bool × ((Int × ((List Int) × (Int × Unit))) × (Int × ((List (Int × ((List Int) × (Int × Unit)))) × (Int × (Int × (Int × (Bool × Unit))))))))))) (k_ : (Int × ((List Int) × (Int × Unit)))) (t4 : (Int × (Int × (Bool × ((Int × ((List Int) × (Int × Unit))) × (Int × ((List (Int × ((List Int) × (Int × Unit)))) × (Int × (Int × (Int × (Bool × Unit))))))))))) (z7 : (List (Int × ((List Int) × (Int × Unit))))) : St := ⟨[.any, .any, .ptr 0 [], .any, .ptr 2 [], .p (.int .i64) 2, .any, .any, .any, .any, .any, .any, .any, .any, .any, .any, .any, .any, .any, .any, .any, .any, .any, .any, .any, .any, .any, .any, .any, .any, .any, .any, .any, .any, .any, .any, .any, .any, .any, .any, .any, .any, .any, .any, .any, .any, .any, .any, .any, .any], [.var 54 kT53 (.pr (.p (.int .i64) p.1) (.pr (.p (.int .i64) p.2.1) (.pr (.p .bool p.2.2.1) (.pr (.p kT38 p.2.2.2.1) (.pr (.p (.int .i64) p.2.2.2.2.1) (.pr (.row 1) (.p (.pair (.int .i64) (.pair (.int .i64) (.pair (.int .i64) (.pair .bool .unit)))) p.2.2.2.2.2.2))))))), .row 51 kT38 z7, .var 54 kT53 (.pr (.p (.int .i64) p.1) (.pr (.p (.int .i64) p.2.1) (.pr (.p .bool p.2.2.1) (.pr (.p kT38 p.2.2.2.1) (.pr (.p (.int .i64) p.2.2.2.2.1) (.pr (.row 1) (.p (.pair (.int .i64) (.pair (.int .i64) (.pair (.int .i64) (.pair .bool .unit)))) p.2.2.2.2.2.2)))))))], 0⟩
def rmatch_x0_1 (p : (Int × (Int × (Bool × ((Int × ((List Int) × (Int × Unit))) × (Int × ((List (Int × ((List Int) × (Int × Unit)))) × (Int × (Int × (Int × (Bool × Unit))))))))))) (k_ : (Int × ((List Int) × (Int × Unit)))) (t4 : (Int × (Int × (Bool × ((Int × ((List Int) × (Int × Unit))) × (Int × ((List (Int × ((List Int) × (Int × Unit)))) × (Int × (Int × (Int × (Bool × Unit))))))))))) : St := ⟨[.any, .any, .ptr 0 [], .any, .ptr 1 [], .any, .any, .any, .any, .any, .any, .any, .any, .any, .any, .any, .any, .any, .any, .any, .any, .any, .any, .any, .any, .any, .any, .any, .any, .any, .any, .any, .any, .any, .any, .any, .any, .any, .any, .any, .any, .any, .any, .any, .any, .any, .any, .any, .any, .any], [.var 54 kT53 (.p kT53 p), .var 54 kT53 (.p kT53 t4)], 0⟩
def rmatch_g0 (g_rrest : (Int × (Int × (Bool × ((Int × ((List Int) × (Int × Unit))) × (Int × ((List (Int × ((List Int) × (Int × Unit)))) × (Int × (Int × (Int × (Bool × Unit)))))))))) → ((Int × (Int × (Bool × ((Int × ((List Int) × (Int × Unit))) × (Int × ((List (Int × ((List Int) × (Int × Unit)))) × (Int × (Int × (Int × (Bool × Unit)))))))))) → Option A) → Option A) (n : Nat) (d : rmatch_sh0.den) (k : Ex → St → Option A) : Option A :=
  rmatch_l0 g_rrest n d.2.1 d.2.2.1 d.2.2.2.1 (fun z7 => k .ret (rmatch_x0_0 d.2.1 d.2.2.1 d.2.2.2.1 z7)) (k (.exit 0) (rmatch_x0_1 d.2.1 d.2.2.1 d.2.2.2.1)) n d.1.2.2.2.2.2.2.1
noncomputable def rmatch_E (g_rrest : (Int × (Int × (Bool × ((Int × ((List Int) × (Int × Unit))) × (Int × ((List (Int × ((List Int) × (Int × Unit)))) × (Int × (Int × (Int × (Bool × Unit)))))))))) → ((Int × (Int × (Bool × ((Int × ((List Int) × (Int × Unit))) × (Int × ((List (Int × ((List Int) × (Int × Unit)))) × (Int × (Int × (Int × (Bool × Unit)))))))))) → Option A) → Option A) (n : Nat) : Env A := ⟨tys, gls, [(41, rrest_ent g_rrest)], [(0, loopE rmatch_d0 rmatch_sh0 (rmatch_g0 g_rrest n))], []⟩
theorem rmatch_T (g_rrest : (Int × (Int × (Bool × ((Int × ((List Int) × (Int × Unit))) × (Int × ((List (Int × ((List Int) × (Int × Unit)))) × (Int × (Int × (Int × (Bool × Unit)))))))))) → ((Int × (Int × (Bool × ((Int × ((List Int) × (Int × Unit))) × (Int × ((List (Int × ((List Int) × (Int × Unit)))) × (Int × (Int × (Int × (Bool × Unit)))))))))) → Option A) → Option A) (n : Nat) : TyOK Try.prog (rmatch_E g_rrest n) := tyOK_of rfl tysB
theorem rmatch_fns (n : Nat) : FnsOK Try.prog (rmatch_E (A := A) (rrest_k n) n) := AllOK.env rfl rfl (AllOK.cons (rrest_ok n) AllOK.nil)
noncomputable def rmatch_LK0 (g_rrest : (Int × (Int × (Bool × ((Int × ((List Int) × (Int × Unit))) × (Int × ((List (Int × ((List Int) × (Int × Unit)))) × (Int × (Int × (Int × (Bool × Unit)))))))))) → ((Int × (Int × (Bool × ((Int × ((List Int) × (Int × Unit))) × (Int × ((List (Int × ((List Int) × (Int × Unit)))) × (Int × (Int × (Int × (Bool × Unit)))))))))) → Option A) → Option A) (n : Nat) (p : (Int × (Int × (Bool × ((Int × ((List Int) × (Int × Unit))) × (Int × ((List (Int × ((List Int) × (Int × Unit)))) × (Int × (Int × (Int × (Bool × Unit))))))))))) (k_ : (Int × ((List Int) × (Int × Unit)))) (t4 : (Int × (Int × (Bool × ((Int × ((List Int) × (Int × Unit))) × (Int × ((List (Int × ((List Int) × (Int × Unit)))) × (Int × (Int × (Int × (Bool × Unit))))))))))) (k : Ex → St → Option A) (f : Nat) (i : Int) : Option A := loopK (codeK (rmatch_E g_rrest n) 1 rmatch_c0) rmatch_d0 rmatch_y0 f (⟨[.any, .any, .ptr 0 [], .ptr 1 [], .ptr 2 [], .any, .p (.int .i64) i, .any, .any, .any, .any, .any, .any, .any, .any, .any, .any, .any, .any, .any, .any, .any, .any, .any, .any, .any, .any, .any, .any, .any, .any, .any, .any, .any, .any, .any, .any, .any, .any, .any, .any, .any, .any, .any, .any, .any, .any, .any, .any, .any], [.var 54 kT53 (.p kT53 p), .var 51 kT38 (.p kT38 k_), .var 54 kT53 (.p kT53 t4)], 0⟩) k
theorem rmatch_st0 (g_rrest : (Int × (Int × (Bool × ((Int × ((List Int) × (Int × Unit))) × (Int × ((List (Int × ((List Int) × (Int × Unit)))) × (Int × (Int × (Int × (Bool × Unit)))))))))) → ((Int × (Int × (Bool × ((Int × ((List Int) × (Int × Unit))) × (Int × ((List (Int × ((List Int) × (Int × Unit)))) × (Int × (Int × (Int × (Bool × Unit)))))))))) → Option A) → Option A) (n f : Nat) (p : (Int × (Int × (Bool × ((Int × ((List Int) × (Int × Unit))) × (Int × ((List (Int × ((List Int) × (Int × Unit)))) × (Int × (Int × (Int × (Bool × Unit))))))))))) (k_ : (Int × ((List Int) × (Int × Unit)))) (t4 : (Int × (Int × (Bool × ((Int × ((List Int) × (Int × Unit))) × (Int × ((List (Int × ((List Int) × (Int × Unit)))) × (Int × (Int × (Int × (Bool × Unit))))))))))) (k : Ex → St → Option A) (i : Int) : rmatch_LK0 g_rrest n p k_ t4 k (f + 1) i = rmatch_b0 g_rrest n p k_ t4 (fun z7 => k .ret (rmatch_x0_0 p k_ t4 z7)) (k (.exit 0) (rmatch_x0_1 p k_ t4)) (rmatch_LK0 g_rrest n p k_ t4 k f) i := by kernel_rfl
theorem rmatch_le0 (g_rrest : (Int × (Int × (Bool × ((Int × ((List Int) × (Int × Unit))) × (Int × ((List (Int × ((List Int) × (Int × Unit)))) × (Int × (Int × (Int × (Bool × Unit)))))))))) → ((Int × (Int × (Bool × ((Int × ((List Int) × (Int × Unit))) × (Int × ((List (Int × ((List Int) × (Int × Unit)))) × (Int × (Int × (Int × (Bool × Unit)))))))))) → Option A) → Option A) (n : Nat) (p : (Int × (Int × (Bool × ((Int × ((List Int) × (Int × Unit))) × (Int × ((List (Int × ((List Int) × (Int × Unit)))) × (Int × (Int × (Int × (Bool × Unit))))))))))) (k_ : (Int × ((List Int) × (Int × Unit)))) (t4 : (Int × (Int × (Bool × ((Int × ((List Int) × (Int × Unit))) × (Int × ((List (Int × ((List Int) × (Int × Unit)))) × (Int × (Int × (Int × (Bool × Unit))))))))))) (k : Ex → St → Option A) : ∀ (f : Nat) (i : Int), rmatch_LK0 g_rrest n p k_ t4 k f i = rmatch_l0 g_rrest n p k_ t4 (fun z7 => k .ret (rmatch_x0_0 p k_ t4 z7)) (k (.exit 0) (rmatch_x0_1 p k_ t4)) f i := by
  intro f
  induction f with
  | zero => intros; kernel_rfl
  | succ f ih => intro i; exact (rmatch_st0 g_rrest n f p k_ t4 k i).trans ((congrArg (fun r => rmatch_b0 g_rrest n p k_ t4 (fun z7 => k .ret (rmatch_x0_0 p k_ t4 z7)) (k (.exit 0) (rmatch_x0_1 p k_ t4)) r i) (funext fun i => ih i)).trans (by kernel_rfl))
theorem rmatch_lo0 (n : Nat) : LoopOK Try.prog gls rmatch_c0 (loopE rmatch_d0 rmatch_sh0 (rmatch_g0 (A := A) (rrest_k n) n)) :=
  LoopOK.of (rmatch_T (rrest_k n) n) (rmatch_fns n) follows (j := 1) (n := n) (xdead := rmatch_y0) (lo_of (by kernel_rfl : loopsOf 1 rmatch_c0 = []) lo_nil) fun d k => Eq.trans (by kernel_rfl) (rmatch_le0 (rrest_k n) n d.2.1 d.2.2.1 d.2.2.2.1 k n d.1.2.2.2.2.2.2.1)
theorem rmatch_eqg (g_rrest : (Int × (Int × (Bool × ((Int × ((List Int) × (Int × Unit))) × (Int × ((List (Int × ((List Int) × (Int × Unit)))) × (Int × (Int × (Int × (Bool × Unit)))))))))) → ((Int × (Int × (Bool × ((Int × ((List Int) × (Int × Unit))) × (Int × ((List (Int × ((List Int) × (Int × Unit)))) × (Int × (Int × (Int × (Bool × Unit)))))))))) → Option A) → Option A) (n : Nat) (a0 : (Int × (Int × (Bool × ((Int × ((List Int) × (Int × Unit))) × (Int × ((List (Int × ((List Int) × (Int × Unit)))) × (Int × (Int × (Int × (Bool × Unit))))))))))) (a1 : (Int × ((List Int) × (Int × Unit)))) (k : AV → List Blk → Option A) : fnK (rmatch_E g_rrest n) Try.f32 [.pure, .pure] [.p kT53 a0, .p kT38 a1] [] k = rmatch_p g_rrest n a0 a1 (fun r0 r1 => k (.tup [.p kT53 r0, .p (.int .i64) r1]) []) := by kernel_rfl
theorem rmatch_eq (n : Nat) (a0 : (Int × (Int × (Bool × ((Int × ((List Int) × (Int × Unit))) × (Int × ((List (Int × ((List Int) × (Int × Unit)))) × (Int × (Int × (Int × (Bool × Unit))))))))))) (a1 : (Int × ((List Int) × (Int × Unit)))) (k : AV → List Blk → Option A) : fnK (rmatch_E (rrest_k n) n) Try.f32 [.pure, .pure] [.p kT53 a0, .p kT38 a1] [] k = rmatch_k n a0 a1 (fun r0 r1 => k (.tup [.p kT53 r0, .p (.int .i64) r1]) []) := rmatch_eqg (rrest_k n) n a0 a1 k
def rmatch_ent (g : (Int × (Int × (Bool × ((Int × ((List Int) × (Int × Unit))) × (Int × ((List (Int × ((List Int) × (Int × Unit)))) × (Int × (Int × (Int × (Bool × Unit)))))))))) → (Int × ((List Int) × (Int × Unit))) → ((Int × (Int × (Bool × ((Int × ((List Int) × (Int × Unit))) × (Int × ((List (Int × ((List Int) × (Int × Unit)))) × (Int × (Int × (Int × (Bool × Unit)))))))))) → Int → Option A) → Option A) : Entry A := pureE fun args k => args2 args kT53 kT38 fun a0 a1 => g a0 a1 (fun r0 r1 => k (.tup [.p kT53 r0, .p (.int .i64) r1]) [])
theorem rmatch_lo (n : Nat) : ∀ c, Try.f32.body = some c → ∀ q ∈ loopsOf 0 c, ∀ L, (rmatch_E (A := A) (rrest_k n) n).lps.lookup q.1 = some L → LoopOK Try.prog gls q.2 L :=
  lo_body (E := rmatch_E (rrest_k n) n) (by kernel_rfl : Try.f32.body = some (bodyOf Try.f32)) (lo_of (E := rmatch_E (rrest_k n) n) (by kernel_rfl : loopsOf 0 (bodyOf Try.f32) = [(0, rmatch_c0)]) (lo_cons rfl (rmatch_lo0 n) lo_nil))
theorem rmatch_ok (n : Nat) : FnOK Try.prog gls 32 (rmatch_ent (A := A) (rmatch_k n)) :=
  FnOK.of (rmatch_T (rrest_k n) n) (rmatch_fns n) follows ⟨Try.func32, by kernel_rfl⟩ (rmatch_lo n) (rm := [.pure, .pure]) fun args k out h => by
    obtain ⟨a0, a1, e, h1⟩ := args2_sound h
    subst e; rw [rmatch_eq]; exact h1

end Go.Ev
end

section
/-
  FUNCTION 17: printed by a program of our own (wip/gen/st.py). '(*masthead/peer.Peer).Match', in continuation form; the evaluator gives it.
-/
set_option linter.all false
set_option maxRecDepth 100000
namespace Go.Ev
open Go.Proofs
variable {A : Type}

-- ============================================================ match_ (function 17)
def match__p (g_rest : Int → Int → (Int × ((List Int) × (Int × Unit))) → Int → Bool → (Int × (Int × (Int × (Bool × Unit)))) → (List ((Int × ((List Int) × (Int × Unit))) × Int)) → (Int → Int → (Int × ((List Int) × (Int × Unit))) → Int → Bool → (Int × (Int × (Int × (Bool × Unit)))) → (List ((Int × ((List Int) × (Int × Unit))) × Int)) → Option A) → Option A) (n : Nat) (k_ : (Int × ((List Int) × (Int × Unit)))) (pa : Int) (pba : Int) (pbba : (Int × ((List Int) × (Int × Unit)))) (pbbba : Int) (pbbbba : Bool) (pbbbbbb : (Int × (Int × (Int × (Bool × Unit))))) (pbbbbba : (List ((Int × ((List Int) × (Int × Unit))) × Int))) (k : Int → Int → Int → (Int × ((List Int) × (Int × Unit))) → Int → Bool → (Int × (Int × (Int × (Bool × Unit)))) → (List ((Int × ((List Int) × (Int × Unit))) × Int)) → Option A) : Option A :=
  bif pbbbba then
    bif (deq kT38 pbba k_) then
      g_rest pa pba pbba pbbba pbbbba pbbbbbb pbbbbba fun r1 r2 r3 r4 r5 r6 r7 =>
      k 1 r1 r2 r3 r4 r5 (0, r6.2) r7
    else
      bif (((mget kT38 pbbbbba k_).getD 0) == 0) then
        k 0 pa pba pbba pbbba pbbbba pbbbbbb pbbbbba
      else
        bif (((mget kT38 (mset kT38 (mset kT38 pbbbbba k_ ((mget kT38 pbbbbba k_).getD 0)) k_ (IntKind.wrap .i64 (((mget kT38 pbbbbba k_).getD 0) - 1))) k_).getD 0) == 0) then
          k 2 pa pba pbba pbbba pbbbba pbbbbbb (mdel kT38 (mset kT38 (mset kT38 pbbbbba k_ ((mget kT38 pbbbbba k_).getD 0)) k_ (IntKind.wrap .i64 (((mget kT38 pbbbbba k_).getD 0) - 1))) k_)
        else
          k 2 pa pba pbba pbbba pbbbba pbbbbbb (mset kT38 (mset kT38 pbbbbba k_ ((mget kT38 pbbbbba k_).getD 0)) k_ (IntKind.wrap .i64 (((mget kT38 pbbbbba k_).getD 0) - 1)))
  else
    bif (((mget kT38 pbbbbba k_).getD 0) == 0) then
      k 0 pa pba pbba pbbba pbbbba pbbbbbb pbbbbba
    else
      bif (((mget kT38 (mset kT38 (mset kT38 pbbbbba k_ ((mget kT38 pbbbbba k_).getD 0)) k_ (IntKind.wrap .i64 (((mget kT38 pbbbbba k_).getD 0) - 1))) k_).getD 0) == 0) then
        k 2 pa pba pbba pbbba pbbbba pbbbbbb (mdel kT38 (mset kT38 (mset kT38 pbbbbba k_ ((mget kT38 pbbbbba k_).getD 0)) k_ (IntKind.wrap .i64 (((mget kT38 pbbbbba k_).getD 0) - 1))) k_)
      else
        k 2 pa pba pbba pbbba pbbbba pbbbbbb (mset kT38 (mset kT38 pbbbbba k_ ((mget kT38 pbbbbba k_).getD 0)) k_ (IntKind.wrap .i64 (((mget kT38 pbbbbba k_).getD 0) - 1)))

def match__k (n : Nat) (k_ : (Int × ((List Int) × (Int × Unit)))) (pa : Int) (pba : Int) (pbba : (Int × ((List Int) × (Int × Unit)))) (pbbba : Int) (pbbbba : Bool) (pbbbbbb : (Int × (Int × (Int × (Bool × Unit))))) (pbbbbba : (List ((Int × ((List Int) × (Int × Unit))) × Int))) (k : Int → Int → Int → (Int × ((List Int) × (Int × Unit))) → Int → Bool → (Int × (Int × (Int × (Bool × Unit)))) → (List ((Int × ((List Int) × (Int × Unit))) × Int)) → Option A) : Option A := match__p (rest_k n) n k_ pa pba pbba pbbba pbbbba pbbbbbb pbbbbba k

noncomputable def match__E (g_rest : Int → Int → (Int × ((List Int) × (Int × Unit))) → Int → Bool → (Int × (Int × (Int × (Bool × Unit)))) → (List ((Int × ((List Int) × (Int × Unit))) × Int)) → (Int → Int → (Int × ((List Int) × (Int × Unit))) → Int → Bool → (Int × (Int × (Int × (Bool × Unit)))) → (List ((Int × ((List Int) × (Int × Unit))) × Int)) → Option A) → Option A) (n : Nat) : Env A := ⟨tys, gls, [(27, rest_ent g_rest)], [], []⟩
theorem match__T (g_rest : Int → Int → (Int × ((List Int) × (Int × Unit))) → Int → Bool → (Int × (Int × (Int × (Bool × Unit)))) → (List ((Int × ((List Int) × (Int × Unit))) × Int)) → (Int → Int → (Int × ((List Int) × (Int × Unit))) → Int → Bool → (Int × (Int × (Int × (Bool × Unit)))) → (List ((Int × ((List Int) × (Int × Unit))) × Int)) → Option A) → Option A) (n : Nat) : TyOK Try.prog (match__E g_rest n) := tyOK_of rfl tysB
theorem match__fns (n : Nat) : FnsOK Try.prog (match__E (A := A) (rest_k n) n) := AllOK.env rfl rfl (AllOK.cons (rest_ok n) AllOK.nil)
theorem match__eqg (g_rest : Int → Int → (Int × ((List Int) × (Int × Unit))) → Int → Bool → (Int × (Int × (Int × (Bool × Unit)))) → (List ((Int × ((List Int) × (Int × Unit))) × Int)) → (Int → Int → (Int × ((List Int) × (Int × Unit))) → Int → Bool → (Int × (Int × (Int × (Bool × Unit)))) → (List ((Int × ((List Int) × (Int × Unit))) × Int)) → Option A) → Option A) (n : Nat) (k_ : (Int × ((List Int) × (Int × Unit)))) (pa : Int) (pba : Int) (pbba : (Int × ((List Int) × (Int × Unit)))) (pbbba : Int) (pbbbba : Bool) (pbbbbbb : (Int × (Int × (Int × (Bool × Unit))))) (pbbbbba : (List ((Int × ((List Int) × (Int × Unit))) × Int))) (k : AV → List Blk → Option A) : fnK (match__E g_rest n) Try.f17 [.pure] [.ptr 0 [], .p kT38 k_] [.var 63 kT62 (.pr (.p (.int .i64) pa) (.pr (.p (.int .i64) pba) (.pr (.p kT38 pbba) (.pr (.p (.int .i64) pbbba) (.pr (.p .bool pbbbba) (.pr (.mp 1) (.p (.pair (.int .i64) (.pair (.int .i64) (.pair (.int .i64) (.pair .bool .unit)))) pbbbbbb))))))), .map kT38 (.int .i64) pbbbbba] k = match__p g_rest n k_ pa pba pbba pbbba pbbbba pbbbbbb pbbbbba (fun r0 r1 r2 r3 r4 r5 r6 r7 => k (.p (.int .i64) r0) [.var 63 kT62 (.pr (.p (.int .i64) r1) (.pr (.p (.int .i64) r2) (.pr (.p kT38 r3) (.pr (.p (.int .i64) r4) (.pr (.p .bool r5) (.pr (.mp 1) (.p (.pair (.int .i64) (.pair (.int .i64) (.pair (.int .i64) (.pair .bool .unit)))) r6))))))), .map kT38 (.int .i64) r7]) := by kernel_rfl
theorem match__eq (n : Nat) (k_ : (Int × ((List Int) × (Int × Unit)))) (pa : Int) (pba : Int) (pbba : (Int × ((List Int) × (Int × Unit)))) (pbbba : Int) (pbbbba : Bool) (pbbbbbb : (Int × (Int × (Int × (Bool × Unit))))) (pbbbbba : (List ((Int × ((List Int) × (Int × Unit))) × Int))) (k : AV → List Blk → Option A) : fnK (match__E (rest_k n) n) Try.f17 [.pure] [.ptr 0 [], .p kT38 k_] [.var 63 kT62 (.pr (.p (.int .i64) pa) (.pr (.p (.int .i64) pba) (.pr (.p kT38 pbba) (.pr (.p (.int .i64) pbbba) (.pr (.p .bool pbbbba) (.pr (.mp 1) (.p (.pair (.int .i64) (.pair (.int .i64) (.pair (.int .i64) (.pair .bool .unit)))) pbbbbbb))))))), .map kT38 (.int .i64) pbbbbba] k = match__k n k_ pa pba pbba pbbba pbbbba pbbbbbb pbbbbba (fun r0 r1 r2 r3 r4 r5 r6 r7 => k (.p (.int .i64) r0) [.var 63 kT62 (.pr (.p (.int .i64) r1) (.pr (.p (.int .i64) r2) (.pr (.p kT38 r3) (.pr (.p (.int .i64) r4) (.pr (.p .bool r5) (.pr (.mp 1) (.p (.pair (.int .i64) (.pair (.int .i64) (.pair (.int .i64) (.pair .bool .unit)))) r6))))))), .map kT38 (.int .i64) r7]) := match__eqg (rest_k n) n k_ pa pba pbba pbbba pbbbba pbbbbbb pbbbbba k
def match__sh : Shape := ⟨[(.ptr 0), (.p kT38)], [(.var 63 kT62 (.pr (.p (.int .i64)) (.pr (.p (.int .i64)) (.pr (.p kT38) (.pr (.p (.int .i64)) (.pr (.p .bool) (.pr (.mp 1) (.p (.pair (.int .i64) (.pair (.int .i64) (.pair (.int .i64) (.pair .bool .unit)))))))))))), (.map kT38 (.int .i64))], 2⟩
def match__ent (g : (Int × ((List Int) × (Int × Unit))) → Int → Int → (Int × ((List Int) × (Int × Unit))) → Int → Bool → (Int × (Int × (Int × (Bool × Unit)))) → (List ((Int × ((List Int) × (Int × Unit))) × Int)) → (Int → Int → Int → (Int × ((List Int) × (Int × Unit))) → Int → Bool → (Int × (Int × (Int × (Bool × Unit)))) → (List ((Int × ((List Int) × (Int × Unit))) × Int)) → Option A) → Option A) : Entry A := ownE [true, false] match__sh fun d k => g d.1.2.1 d.2.1.1 d.2.1.2.1 d.2.1.2.2.1 d.2.1.2.2.2.1 d.2.1.2.2.2.2.1 d.2.1.2.2.2.2.2.2 d.2.2.1 (fun r0 r1 r2 r3 r4 r5 r6 r7 => k (.p (.int .i64) r0) [.var 63 kT62 (.pr (.p (.int .i64) r1) (.pr (.p (.int .i64) r2) (.pr (.p kT38 r3) (.pr (.p (.int .i64) r4) (.pr (.p .bool r5) (.pr (.mp 1) (.p (.pair (.int .i64) (.pair (.int .i64) (.pair (.int .i64) (.pair .bool .unit)))) r6))))))), .map kT38 (.int .i64) r7])
theorem match__lo (n : Nat) : ∀ c, Try.f17.body = some c → ∀ q ∈ loopsOf 0 c, ∀ L, (match__E (A := A) (rest_k n) n).lps.lookup q.1 = some L → LoopOK Try.prog gls q.2 L :=
  lo_body (E := match__E (rest_k n) n) (by kernel_rfl : Try.f17.body = some (bodyOf Try.f17)) (lo_of (E := match__E (rest_k n) n) (by kernel_rfl : loopsOf 0 (bodyOf Try.f17) = []) lo_nil)
theorem match__ok (n : Nat) : FnOK Try.prog gls 17 (match__ent (A := A) (match__k n)) :=
  FnOK.ofOwn (match__T (rest_k n) n) (match__fns n) follows ⟨Try.func17, by kernel_rfl⟩ (match__lo n) (rm := [.pure]) (S := match__sh) fun d k => Eq.trans (by kernel_rfl) (match__eq n d.1.2.1 d.2.1.1 d.2.1.2.1 d.2.1.2.2.1 d.2.1.2.2.2.1 d.2.1.2.2.2.2.1 d.2.1.2.2.2.2.2.2 d.2.2.1 k)

end Go.Ev
end

