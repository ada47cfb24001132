import Derived.Test.YtbioclollbemeaaB5
set_option linter.all false
section
/-
  FUNCTION 17: printed by a program of our own (wip/gen/st.py). '(*masthead/peer.Peer).Match', in continuation form; the evaluator gives it.
-/
set_option linter.all false
set_option maxRecDepth 100000
namespace Go.Ev
open Go.Proofs
variable {A : Type}

-- ============================================================ match_ (function 17)
def match__p (g_rest : Int → Int → (Int × ((List Int) × (Int × Unit))) → Int → Bool → (Int × (Int × (Int × (Bool × Unit)))) → (List ((Int × ((List Int) × (Int × Unit))) × Int)) → (Int → Int → (Int × ((List Int) × (Int × Unit))) → Int → Bool → (Int × (Int × (Int × (Bool × Unit)))) → (List ((Int × ((List Int) × (Int × Unit))) × Int)) → Option A) → Option A) (n : Nat) (k_ : (Int × ((List Int) × (Int × Unit)))) (pa : Int) (pba : Int) (pbba : (Int × ((List Int) × (Int × Unit)))) (pbbba : Int) (pbbbba : Bool) (pbbbbbb : (Int × (Int × (Int × (Bool × Unit))))) (pbbbbba : (List ((Int × ((List Int) × (Int × Unit))) × Int))) (k : Int → Int → Int → (Int × ((List Int) × (Int × Unit))) → Int → Bool → (Int × (Int × (Int × (Bool × Unit)))) → (List ((Int × ((List Int) × (Int × Unit))) × Int)) → Option A) : Option A :=
  bif pbbbba then
    bif (deq kT38 pbba k_) then
      g_rest pa pba pbba pbbba pbbbba pbbbbbb pbbbbba fun r1 r2 r3 r4 r5 r6 r7 =>
      k 1 r1 r2 r3 r4 r5 (0, r6.2) r7
    else
      bif (((mget kT38 pbbbbba k_).getD 0) == 0) then
        k 0 pa pba pbba pbbba pbbbba pbbbbbb pbbbbba
      else
        bif (((mget kT38 (mset kT38 (mset kT38 pbbbbba k_ ((mget kT38 pbbbbba k_).getD 0)) k_ (IntKind.wrap .i64 (((mget kT38 pbbbbba k_).getD 0) - 1))) k_).getD 0) == 0) then
          k 2 pa pba pbba pbbba pbbbba pbbbbbb (mdel kT38 (mset kT38 (mset kT38 pbbbbba k_ ((mget kT38 pbbbbba k_).getD 0)) k_ (IntKind.wrap .i64 (((mget kT38 pbbbbba k_).getD 0) - 1))) k_)
        else
          k 2 pa pba pbba pbbba pbbbba pbbbbbb (mset kT38 (mset kT38 pbbbbba k_ ((mget kT38 pbbbbba k_).getD 0)) k_ (IntKind.wrap .i64 (((mget kT38 pbbbbba k_).getD 0) - 1)))
  else
    bif (((mget kT38 pbbbbba k_).getD 0) == 0) then
      k 0 pa pba pbba pbbba pbbbba pbbbbbb pbbbbba
    else
      bif (((mget kT38 (mset kT38 (mset kT38 pbbbbba k_ ((mget kT38 pbbbbba k_).getD 0)) k_ (IntKind.wrap .i64 (((mget kT38 pbbbbba k_).getD 0) - 1))) k_).getD 0) == 0) then
        k 2 pa pba pbba pbbba pbbbba pbbbbbb (mdel kT38 (mset kT38 (mset kT38 pbbbbba k_ ((mget kT38 pbbbbba k_).getD 0)) k_ (IntKind.wrap .i64 (((mget kT38 pbbbbba k_).getD 0) - 1))) k_)
      else
        k 2 pa pba pbba pbbba pbbbba pbbbbbb (mset kT38 (mset kT38 pbbbbba k_ ((mget kT38 pbbbbba k_).getD 0)) k_ (IntKind.wrap .i64 (((mget kT38 pbbbbba k_).getD 0) - 1)))

def match__k (n : Nat) (k_ : (Int × ((List Int) × (Int × Unit)))) (pa : Int) (pba : Int) (pbba : (Int × ((List Int) × (Int × Unit)))) (pbbba : Int) (pbbbba : Bool) (pbbbbbb : (Int × (Int × (Int × (Bool × Unit))))) (pbbbbba : (List ((Int × ((List Int) × (Int × Unit))) × Int))) (k : Int → Int → Int → (Int × ((List Int) × (Int × Unit))) → Int → Bool → (Int × (Int × (Int × (Bool × Unit)))) → (List ((Int × ((List Int) × (Int × Unit))) × Int)) → Option A) : Option A := match__p (rest_k n) n k_ pa pba pbba pbbba pbbbba pbbbbbb pbbbbba k

noncomputable def match__E (g_rest : Int → Int → (Int × ((List Int) × (Int × Unit))) → Int → Bool → (Int × (Int × (Int × (Bool × Unit)))) → (List ((Int × ((List Int) × (Int × Unit))) × Int)) → (Int → Int → (Int × ((List Int) × (Int × Unit))) → Int → Bool → (Int × (Int × (Int × (Bool × Unit)))) → (List ((Int × ((List Int) × (Int × Unit))) × Int)) → Option A) → Option A) (n : Nat) : Env A := ⟨tys, gls, [(27, rest_ent g_rest)], [], []⟩
theorem match__T (g_rest : Int → Int → (Int × ((List Int) × (Int × Unit))) → Int → Bool → (Int × (Int × (Int × (Bool × Unit)))) → (List ((Int × ((List Int) × (Int × Unit))) × Int)) → (Int → Int → (Int × ((List Int) × (Int × Unit))) → Int → Bool → (Int × (Int × (Int × (Bool × Unit)))) → (List ((Int × ((List Int) × (Int × Unit))) × Int)) → Option A) → Option A) (n : Nat) : TyOK Try.prog (match__E g_rest n) := tyOK_of rfl tysB
theorem match__fns (n : Nat) : FnsOK Try.prog (match__E (A := A) (rest_k n) n) := AllOK.env rfl rfl (AllOK.cons (rest_ok n) AllOK.nil)
theorem match__eqg (g_rest : Int → Int → (Int × ((List Int) × (Int × Unit))) → Int → Bool → (Int × (Int × (Int × (Bool × Unit)))) → (List ((Int × ((List Int) × (Int × Unit))) × Int)) → (Int → Int → (Int × ((List Int) × (Int × Unit))) → Int → Bool → (Int × (Int × (Int × (Bool × Unit)))) → (List ((Int × ((List Int) × (Int × Unit))) × Int)) → Option A) → Option A) (n : Nat) (k_ : (Int × ((List Int) × (Int × Unit)))) (pa : Int) (pba : Int) (pbba : (Int × ((List Int) × (Int × Unit)))) (pbbba : Int) (pbbbba : Bool) (pbbbbbb : (Int × (Int × (Int × (Bool × Unit))))) (pbbbbba : (List ((Int × ((List Int) × (Int × Unit))) × Int))) (k : AV → List Blk → Option A) : fnK (match__E g_rest n) Try.f17 [.pure] [.ptr 0 [], .p kT38 k_] [.var 63 kT62 (.pr (.p (.int .i64) pa) (.pr (.p (.int .i64) pba) (.pr (.p kT38 pbba) (.pr (.p (.int .i64) pbbba) (.pr (.p .bool pbbbba) (.pr (.mp 1) (.p (.pair (.int .i64) (.pair (.int .i64) (.pair (.int .i64) (.pair .bool .unit)))) pbbbbbb))))))), .map kT38 (.int .i64) pbbbbba] k = match__p g_rest n k_ pa pba pbba pbbba pbbbba pbbbbbb pbbbbba (fun r0 r1 r2 r3 r4 r5 r6 r7 => k (.p (.int .i64) r0) [.var 63 kT62 (.pr (.p (.int .i64) r1) (.pr (.p (.int .i64) r2) (.pr (.p kT38 r3) (.pr (.p (.int .i64) r4) (.pr (.p .bool r5) (.pr (.mp 1) (.p (.pair (.int .i64) (.pair (.int .i64) (.pair (.int .i64) (.pair .bool .unit)))) r6))))))), .map kT38 (.int .i64) r7]) := by kernel_rfl
theorem match__eq (n : Nat) (k_ : (Int × ((List Int) × (Int × Unit)))) (pa : Int) (pba : Int) (pbba : (Int × ((List Int) × (Int × Unit)))) (pbbba : Int) (pbbbba : Bool) (pbbbbbb : (Int × (Int × (Int × (Bool × Unit))))) (pbbbbba : (List ((Int × ((List Int) × (Int × Unit))) × Int))) (k : AV → List Blk → Option A) : fnK (match__E (rest_k n) n) Try.f17 [.pure] [.ptr 0 [], .p kT38 k_] [.var 63 kT62 (.pr (.p (.int .i64) pa) (.pr (.p (.int .i64) pba) (.pr (.p kT38 pbba) (.pr (.p (.int .i64) pbbba) (.pr (.p .bool pbbbba) (.pr (.mp 1) (.p (.pair (.int .i64) (.pair (.int .i64) (.pair (.int .i64) (.pair .bool .unit)))) pbbbbbb))))))), .map kT38 (.int .i64) pbbbbba] k = match__k n k_ pa pba pbba pbbba pbbbba pbbbbbb pbbbbba (fun r0 r1 r2 r3 r4 r5 r6 r7 => k (.p (.int .i64) r0) [.var 63 kT62 (.pr (.p (.int .i64) r1) (.pr (.p (.int .i64) r2) (.pr (.p kT38 r3) (.pr (.p (.int .i64) r4) (.pr (.p .bool r5) (.pr (.mp 1) (.p (.pair (.int .i64) (.pair (.int .i64) (.pair (.int .i64) (.pair .bool .unit)))) r6))))))), .map kT38 (.int .i64) r7]) := match__eqg (rest_k n) n k_ pa pba pbba pbbba pbbbba pbbbbbb pbbbbba k
def match__sh : Shape := ⟨[(.ptr 0), (.p kT38)], [(.var 63 kT62 (.pr (.p (.int .i64)) (.pr (.p (.int .i64)) (.pr (.p kT38) (.pr (.p (.int .i64)) (.pr (.p .bool) (.pr (.mp 1) (.p (.pair (.int .i64) (.pair (.int .i64) (.pair (.int .i64) (.pair .bool .unit)))))))))))), (.map kT38 (.int .i64))], 2⟩
def match__ent (g : (Int × ((List Int) × (Int × Unit))) → Int → Int → (Int × ((List Int) × (Int × Unit))) → Int → Bool → (Int × (Int × (Int × (Bool × Unit)))) → (List ((Int × ((List Int) × (Int × Unit))) × Int)) → (Int → Int → Int → (Int × ((List Int) × (Int × Unit))) → Int → Bool → (Int × (Int × (Int × (Bool × Unit)))) → (List ((Int × ((List Int) × (Int × Unit))) × Int)) → Option A) → Option A) : Entry A := ownE [true, false] match__sh fun d k => g d.1.2.1 d.2.1.1 d.2.1.2.1 d.2.1.2.2.1 d.2.1.2.2.2.1 d.2.1.2.2.2.2.1 d.2.1.2.2.2.2.2.2 d.2.2.1 (fun r0 r1 r2 r3 r4 r5 r6 r7 => k (.p (.int .i64) r0) [.var 63 kT62 (.pr (.p (.int .i64) r1) (.pr (.p (.int .i64) r2) (.pr (.p kT38 r3) (.pr (.p (.int .i64) r4) (.pr (.p .bool r5) (.pr (.mp 1) (.p (.pair (.int .i64) (.pair (.int .i64) (.pair (.int .i64) (.pair .bool .unit)))) r6))))))), .map kT38 (.int .i64) r7])
theorem match__lo (n : Nat) : ∀ c, Try.f17.body = some c → ∀ q ∈ loopsOf 0 c, ∀ L, (match__E (A := A) (rest_k n) n).lps.lookup q.1 = some L → LoopOK Try.prog gls q.2 L :=
  lo_body (E := match__E (rest_k n) n) (by kernel_rfl : Try.f17.body = some (bodyOf Try.f17)) (lo_of (E := match__E (rest_k n) n) (by kernel_rfl : loopsOf 0 (bodyOf Try.f17) = []) lo_nil)
theorem match__ok (n : Nat) : FnOK Try.prog gls 17 (match__ent (A := A) (match__k n)) :=
  FnOK.ofOwn (match__T (rest_k n) n) (match__fns n) follows ⟨Try.func17, by kernel_rfl⟩ (match__lo n) (rm := [.pure]) (S := match__sh) fun d k => Eq.trans (by kernel_rfl) (match__eq n d.1.2.1 d.2.1.1 d.2.1.2.1 d.2.1.2.2.1 d.2.1.2.2.2.1 d.2.1.2.2.2.2.1 d.2.1.2.2.2.2.2.2 d.2.2.1 k)

end Go.Ev
end

section
/-
  FUNCTION 11: printed by a program of our own (wip/gen/st.py). 'masthead/mastheadlaw24.awake', in continuation form; the evaluator gives it.
-/
set_option linter.all false
set_option maxRecDepth 100000
namespace Go.Ev
open Go.Proofs
variable {A : Type}

-- ============================================================ awake (function 11)
def awake_p (g_new_ : Int → Int → (Int → Option A) → (Int → Int → Int → (Int × ((List Int) × (Int × Unit))) → Int → Bool → (Int × (Int × (Int × (Bool × Unit)))) → (List ((Int × ((List Int) × (Int × Unit))) × Int)) → Option A) → Option A) (g_ask : (Int × ((List Int) × (Int × Unit))) → Int → Int → Int → (Int × ((List Int) × (Int × Unit))) → Int → Bool → (Int × (Int × (Int × (Bool × Unit)))) → (List ((Int × ((List Int) × (Int × Unit))) × Int)) → (Int → Int → Int → (Int × ((List Int) × (Int × Unit))) → Int → Bool → (Int × (Int × (Int × (Bool × Unit)))) → (List ((Int × ((List Int) × (Int × Unit))) × Int)) → Option A) → Option A) (g_waits : Int → Int → (Int × ((List Int) × (Int × Unit))) → Int → Bool → (Int × (Int × (Int × (Bool × Unit)))) → (List ((Int × ((List Int) × (Int × Unit))) × Int)) → ((Int × ((List Int) × (Int × Unit))) → Int → Bool → Int → Int → (Int × ((List Int) × (Int × Unit))) → Int → Bool → (Int × (Int × (Int × (Bool × Unit)))) → (List ((Int × ((List Int) × (Int × Unit))) × Int)) → Option A) → Option A) (g_delay : Int → Int → Int → (Int → Option A) → Option A) (g_match_ : (Int × ((List Int) × (Int × Unit))) → Int → Int → (Int × ((List Int) × (Int × Unit))) → Int → Bool → (Int × (Int × (Int × (Bool × Unit)))) → (List ((Int × ((List Int) × (Int × Unit))) × Int)) → (Int → Int → Int → (Int × ((List Int) × (Int × Unit))) → Int → Bool → (Int × (Int × (Int × (Bool × Unit)))) → (List ((Int × ((List Int) × (Int × Unit))) × Int)) → Option A) → Option A) (n : Nat) (k : Bool → Option A) : Option A :=
  g_new_ 4 20 (fun r1 =>
    bif (r1 != 0) then
      k false
    else
      k false) (fun r2 r3 r4 r5 r6 r7 r8 r9 =>
    bif (r2 != 0) then
      k false
    else
      g_ask (3, ((List.replicate 32 (0 : Int)), (0, ()))) 5 r3 r4 r5 r6 r7 r8 r9 fun r10 r11 r12 r13 r14 r15 r16 r17 =>
      bif (r10 != 0) then
        k false
      else
        g_waits r11 r12 r13 r14 r15 r16 r17 fun r18 r19 r20 r21 r22 r23 r24 r25 r26 r27 =>
        g_delay 4 20 3 fun r28 =>
        bif (r28 == 16) then
          g_delay 4 20 4 fun r29 =>
          bif (r29 == 20) then
            bif (deq kT38 r18 (3, ((List.replicate 32 (0 : Int)), (0, ())))) then
              bif (r19 == 9) then
                bif r20 then
                  g_match_ (0, ((List.replicate 32 (0 : Int)), (0, ()))) r21 r22 r23 r24 r25 r26 r27 fun r30 r31 r32 r33 r34 r35 r36 r37 =>
                  k (r30 == 0)
                else
                  k false
              else
                k false
            else
              k false
          else
            k false
        else
          k false)

def awake_k (n : Nat) (k : Bool → Option A) : Option A := awake_p (new__k n) (ask_k n) (waits_k n) (delay_k n) (match__k n) n k

noncomputable def awake_E (g_new_ : Int → Int → (Int → Option A) → (Int → Int → Int → (Int × ((List Int) × (Int × Unit))) → Int → Bool → (Int × (Int × (Int × (Bool × Unit)))) → (List ((Int × ((List Int) × (Int × Unit))) × Int)) → Option A) → Option A) (g_ask : (Int × ((List Int) × (Int × Unit))) → Int → Int → Int → (Int × ((List Int) × (Int × Unit))) → Int → Bool → (Int × (Int × (Int × (Bool × Unit)))) → (List ((Int × ((List Int) × (Int × Unit))) × Int)) → (Int → Int → Int → (Int × ((List Int) × (Int × Unit))) → Int → Bool → (Int × (Int × (Int × (Bool × Unit)))) → (List ((Int × ((List Int) × (Int × Unit))) × Int)) → Option A) → Option A) (g_waits : Int → Int → (Int × ((List Int) × (Int × Unit))) → Int → Bool → (Int × (Int × (Int × (Bool × Unit)))) → (List ((Int × ((List Int) × (Int × Unit))) × Int)) → ((Int × ((List Int) × (Int × Unit))) → Int → Bool → Int → Int → (Int × ((List Int) × (Int × Unit))) → Int → Bool → (Int × (Int × (Int × (Bool × Unit)))) → (List ((Int × ((List Int) × (Int × Unit))) × Int)) → Option A) → Option A) (g_delay : Int → Int → Int → (Int → Option A) → Option A) (g_match_ : (Int × ((List Int) × (Int × Unit))) → Int → Int → (Int × ((List Int) × (Int × Unit))) → Int → Bool → (Int × (Int × (Int × (Bool × Unit)))) → (List ((Int × ((List Int) × (Int × Unit))) × Int)) → (Int → Int → Int → (Int × ((List Int) × (Int × Unit))) → Int → Bool → (Int × (Int × (Int × (Bool × Unit)))) → (List ((Int × ((List Int) × (Int × Unit))) × Int)) → Option A) → Option A) (n : Nat) : Env A := ⟨tys, gls, [(12, new__ent g_new_), (14, ask_ent g_ask), (24, waits_ent g_waits), (8, delay_ent g_delay), (17, match__ent g_match_)], [], []⟩
theorem awake_T (g_new_ : Int → Int → (Int → Option A) → (Int → Int → Int → (Int × ((List Int) × (Int × Unit))) → Int → Bool → (Int × (Int × (Int × (Bool × Unit)))) → (List ((Int × ((List Int) × (Int × Unit))) × Int)) → Option A) → Option A) (g_ask : (Int × ((List Int) × (Int × Unit))) → Int → Int → Int → (Int × ((List Int) × (Int × Unit))) → Int → Bool → (Int × (Int × (Int × (Bool × Unit)))) → (List ((Int × ((List Int) × (Int × Unit))) × Int)) → (Int → Int → Int → (Int × ((List Int) × (Int × Unit))) → Int → Bool → (Int × (Int × (Int × (Bool × Unit)))) → (List ((Int × ((List Int) × (Int × Unit))) × Int)) → Option A) → Option A) (g_waits : Int → Int → (Int × ((List Int) × (Int × Unit))) → Int → Bool → (Int × (Int × (Int × (Bool × Unit)))) → (List ((Int × ((List Int) × (Int × Unit))) × Int)) → ((Int × ((List Int) × (Int × Unit))) → Int → Bool → Int → Int → (Int × ((List Int) × (Int × Unit))) → Int → Bool → (Int × (Int × (Int × (Bool × Unit)))) → (List ((Int × ((List Int) × (Int × Unit))) × Int)) → Option A) → Option A) (g_delay : Int → Int → Int → (Int → Option A) → Option A) (g_match_ : (Int × ((List Int) × (Int × Unit))) → Int → Int → (Int × ((List Int) × (Int × Unit))) → Int → Bool → (Int × (Int × (Int × (Bool × Unit)))) → (List ((Int × ((List Int) × (Int × Unit))) × Int)) → (Int → Int → Int → (Int × ((List Int) × (Int × Unit))) → Int → Bool → (Int × (Int × (Int × (Bool × Unit)))) → (List ((Int × ((List Int) × (Int × Unit))) × Int)) → Option A) → Option A) (n : Nat) : TyOK Try.prog (awake_E g_new_ g_ask g_waits g_delay g_match_ n) := tyOK_of rfl tysB
theorem awake_fns (n : Nat) : FnsOK Try.prog (awake_E (A := A) (new__k n) (ask_k n) (waits_k n) (delay_k n) (match__k n) n) := AllOK.env rfl rfl (AllOK.cons (new__ok n) (AllOK.cons (ask_ok n) (AllOK.cons (waits_ok n) (AllOK.cons (delay_ok n) (AllOK.cons (match__ok n) AllOK.nil)))))
theorem awake_eqg (g_new_ : Int → Int → (Int → Option A) → (Int → Int → Int → (Int × ((List Int) × (Int × Unit))) → Int → Bool → (Int × (Int × (Int × (Bool × Unit)))) → (List ((Int × ((List Int) × (Int × Unit))) × Int)) → Option A) → Option A) (g_ask : (Int × ((List Int) × (Int × Unit))) → Int → Int → Int → (Int × ((List Int) × (Int × Unit))) → Int → Bool → (Int × (Int × (Int × (Bool × Unit)))) → (List ((Int × ((List Int) × (Int × Unit))) × Int)) → (Int → Int → Int → (Int × ((List Int) × (Int × Unit))) → Int → Bool → (Int × (Int × (Int × (Bool × Unit)))) → (List ((Int × ((List Int) × (Int × Unit))) × Int)) → Option A) → Option A) (g_waits : Int → Int → (Int × ((List Int) × (Int × Unit))) → Int → Bool → (Int × (Int × (Int × (Bool × Unit)))) → (List ((Int × ((List Int) × (Int × Unit))) × Int)) → ((Int × ((List Int) × (Int × Unit))) → Int → Bool → Int → Int → (Int × ((List Int) × (Int × Unit))) → Int → Bool → (Int × (Int × (Int × (Bool × Unit)))) → (List ((Int × ((List Int) × (Int × Unit))) × Int)) → Option A) → Option A) (g_delay : Int → Int → Int → (Int → Option A) → Option A) (g_match_ : (Int × ((List Int) × (Int × Unit))) → Int → Int → (Int × ((List Int) × (Int × Unit))) → Int → Bool → (Int × (Int × (Int × (Bool × Unit)))) → (List ((Int × ((List Int) × (Int × Unit))) × Int)) → (Int → Int → Int → (Int × ((List Int) × (Int × Unit))) → Int → Bool → (Int × (Int × (Int × (Bool × Unit)))) → (List ((Int × ((List Int) × (Int × Unit))) × Int)) → Option A) → Option A) (n : Nat) (k : AV → List Blk → Option A) : fnK (awake_E g_new_ g_ask g_waits g_delay g_match_ n) Try.f11 [.pure] [] [] k = awake_p g_new_ g_ask g_waits g_delay g_match_ n (fun r0 => k (.p .bool r0) []) := by kernel_rfl
theorem awake_eq (n : Nat) (k : AV → List Blk → Option A) : fnK (awake_E (new__k n) (ask_k n) (waits_k n) (delay_k n) (match__k n) n) Try.f11 [.pure] [] [] k = awake_k n (fun r0 => k (.p .bool r0) []) := awake_eqg (new__k n) (ask_k n) (waits_k n) (delay_k n) (match__k n) n k
def awake_ent (g : (Bool → Option A) → Option A) : Entry A := pureE fun args k => args0 args (g (fun r0 => k (.p .bool r0) []))
theorem awake_lo (n : Nat) : ∀ c, Try.f11.body = some c → ∀ q ∈ loopsOf 0 c, ∀ L, (awake_E (A := A) (new__k n) (ask_k n) (waits_k n) (delay_k n) (match__k n) n).lps.lookup q.1 = some L → LoopOK Try.prog gls q.2 L :=
  lo_body (E := awake_E (new__k n) (ask_k n) (waits_k n) (delay_k n) (match__k n) n) (by kernel_rfl : Try.f11.body = some (bodyOf Try.f11)) (lo_of (E := awake_E (new__k n) (ask_k n) (waits_k n) (delay_k n) (match__k n) n) (by kernel_rfl : loopsOf 0 (bodyOf Try.f11) = []) lo_nil)
theorem awake_ok (n : Nat) : FnOK Try.prog gls 11 (awake_ent (A := A) (awake_k n)) :=
  FnOK.of (awake_T (new__k n) (ask_k n) (waits_k n) (delay_k n) (match__k n) n) (awake_fns n) follows ⟨Try.func11, by kernel_rfl⟩ (awake_lo n) (rm := [.pure]) fun args k out h => by
    obtain ⟨e, h1⟩ := args0_sound h
    subst e; rw [awake_eq]; exact h1

end Go.Ev
end

section
/-
  FUNCTION 3: printed by a program of our own (wip/gen/st.py). 'masthead/mastheadlaw24.PeerDelays', in continuation form; the evaluator gives it.
-/
set_option linter.all false
set_option maxRecDepth 100000
namespace Go.Ev
open Go.Proofs
variable {A : Type}

-- ============================================================ delays (function 3)
def delays_p (g_delay : Int → Int → Int → (Int → Option A) → Option A) (g_rdelay : Int → Int → Int → (Int → Option A) → Option A) (g_rright : Int → Int → (Bool → Option A) → Option A) (g_awake : (Bool → Option A) → Option A) (n : Nat) (a0 : Int) (a1 : Int) (a2 : Int) (k : Bool → Option A) : Option A :=
  g_delay a0 a1 a2 fun r1 =>
  g_rdelay a0 a1 (imin a2 64) fun r2 =>
  bif (r1 != r2) then
    k false
  else
    g_rright a0 a1 fun r3 =>
    bif (!r3) then
      g_awake fun r4 =>
      k r4
    else
      bif (decide (a2 < 1)) then
        g_awake fun r5 =>
        k r5
      else
        bif (decide (a2 > 1099511627776)) then
          g_awake fun r6 =>
          k r6
        else
          bif (decide (r1 ≥ a0)) then
            bif (decide (r1 ≤ a1)) then
              g_delay a0 a1 (IntKind.wrap .i64 (a2 + 1)) fun r7 =>
              bif (decide (r7 ≥ r1)) then
                g_awake fun r8 =>
                k r8
              else
                k false
            else
              k false
          else
            k false

def delays_k (n : Nat) (a0 : Int) (a1 : Int) (a2 : Int) (k : Bool → Option A) : Option A := delays_p (delay_k n) (rdelay_k n) (rright_k n) (awake_k n) n a0 a1 a2 k

noncomputable def delays_E (g_delay : Int → Int → Int → (Int → Option A) → Option A) (g_rdelay : Int → Int → Int → (Int → Option A) → Option A) (g_rright : Int → Int → (Bool → Option A) → Option A) (g_awake : (Bool → Option A) → Option A) (n : Nat) : Env A := ⟨tys, gls, [(8, delay_ent g_delay), (9, rdelay_ent g_rdelay), (10, rright_ent g_rright), (11, awake_ent g_awake)], [], []⟩
theorem delays_T (g_delay : Int → Int → Int → (Int → Option A) → Option A) (g_rdelay : Int → Int → Int → (Int → Option A) → Option A) (g_rright : Int → Int → (Bool → Option A) → Option A) (g_awake : (Bool → Option A) → Option A) (n : Nat) : TyOK Try.prog (delays_E g_delay g_rdelay g_rright g_awake n) := tyOK_of rfl tysB
theorem delays_fns (n : Nat) : FnsOK Try.prog (delays_E (A := A) (delay_k n) (rdelay_k n) (rright_k n) (awake_k n) n) := AllOK.env rfl rfl (AllOK.cons (delay_ok n) (AllOK.cons (rdelay_ok n) (AllOK.cons (rright_ok n) (AllOK.cons (awake_ok n) AllOK.nil))))
theorem delays_eqg (g_delay : Int → Int → Int → (Int → Option A) → Option A) (g_rdelay : Int → Int → Int → (Int → Option A) → Option A) (g_rright : Int → Int → (Bool → Option A) → Option A) (g_awake : (Bool → Option A) → Option A) (n : Nat) (a0 : Int) (a1 : Int) (a2 : Int) (k : AV → List Blk → Option A) : fnK (delays_E g_delay g_rdelay g_rright g_awake n) Try.f3 [.pure] [.p (.int .i64) a0, .p (.int .i64) a1, .p (.int .i64) a2] [] k = delays_p g_delay g_rdelay g_rright g_awake n a0 a1 a2 (fun r0 => k (.p .bool r0) []) := by kernel_rfl
theorem delays_eq (n : Nat) (a0 : Int) (a1 : Int) (a2 : Int) (k : AV → List Blk → Option A) : fnK (delays_E (delay_k n) (rdelay_k n) (rright_k n) (awake_k n) n) Try.f3 [.pure] [.p (.int .i64) a0, .p (.int .i64) a1, .p (.int .i64) a2] [] k = delays_k n a0 a1 a2 (fun r0 => k (.p .bool r0) []) := delays_eqg (delay_k n) (rdelay_k n) (rright_k n) (awake_k n) n a0 a1 a2 k
def delays_ent (g : Int → Int → Int → (Bool → Option A) → Option A) : Entry A := pureE fun args k => args3 args (.int .i64) (.int .i64) (.int .i64) fun a0 a1 a2 => g a0 a1 a2 (fun r0 => k (.p .bool r0) [])
theorem delays_lo (n : Nat) : ∀ c, Try.f3.body = some c → ∀ q ∈ loopsOf 0 c, ∀ L, (delays_E (A := A) (delay_k n) (rdelay_k n) (rright_k n) (awake_k n) n).lps.lookup q.1 = some L → LoopOK Try.prog gls q.2 L :=
  lo_body (E := delays_E (delay_k n) (rdelay_k n) (rright_k n) (awake_k n) n) (by kernel_rfl : Try.f3.body = some (bodyOf Try.f3)) (lo_of (E := delays_E (delay_k n) (rdelay_k n) (rright_k n) (awake_k n) n) (by kernel_rfl : loopsOf 0 (bodyOf Try.f3) = []) lo_nil)
theorem delays_ok (n : Nat) : FnOK Try.prog gls 3 (delays_ent (A := A) (delays_k n)) :=
  FnOK.of (delays_T (delay_k n) (rdelay_k n) (rright_k n) (awake_k n) n) (delays_fns n) follows ⟨Try.func3, by kernel_rfl⟩ (delays_lo n) (rm := [.pure]) fun args k out h => by
    obtain ⟨a0, a1, a2, e, h1⟩ := args3_sound h
    subst e; rw [delays_eq]; exact h1

end Go.Ev
end

section
/-
  THE LAW OF PeerDelays.
-/
set_option linter.all false
namespace Go.Ev
variable {A : Type}

theorem awake_1000 (k : Bool → Option A) : awake_k 1000 k = k true := by kernel_rfl

theorem delays_law (a0 a1 a2 : Int) (f0 : WF (.int .i64) a0) (f1 : WF (.int .i64) a1) (f2 : WF (.int .i64) a2) : ∃ n, delays_k n a0 a1 a2 (fun r => some r) = some true := by
  have hf := wf_i64 f2
  refine ⟨1000, ?_⟩
  have haw : ∀ k : Bool → Option Bool, awake_k 1000 k = k true := awake_1000
  have hn : 30 < 1000 := by decide
  generalize 1000 = n at haw hn
  unfold delays_k delays_p
  by_cases h : Rt a0 a1
  · have hm : imin a2 64 ≤ 9223372036854775807 := by unfold imin; split <;> omega
    rw [delay_law n hn a0 a1 a2 h hf.2, rdelay_law n hn a0 a1 _ h hm, DD_sat a0 a1 a2 h]
    rw [show (DD a0 a1 a2 != DD a0 a1 a2) = false from bne_self_eq_false _, cond_false, rright_law, decide_eq_true h, Bool.not_true, cond_false]
    by_cases h1 : a2 < 1
    · rw [decide_eq_true h1, cond_true, haw]
    · rw [decide_eq_false h1, cond_false]
      by_cases h2 : a2 > 1099511627776
      · rw [decide_eq_true h2, cond_true, haw]
      · obtain ⟨g1, g2, g3⟩ := DD_ge a0 a1 a2 h (by omega)
        rw [decide_eq_false h2, cond_false, decide_eq_true (show DD a0 a1 a2 ≥ a0 from g1), cond_true, decide_eq_true g2, cond_true, wrap_id (by omega) (by omega), delay_law n hn a0 a1 _ h (by omega), decide_eq_true (show DD a0 a1 (a2 + 1) ≥ DD a0 a1 a2 from g3), cond_true, haw]
  · rw [delay_off n a0 a1 a2 h, rdelay_off n a0 a1 _ h]
    rw [show ((0 : Int) != 0) = false from rfl, cond_false, rright_law, decide_eq_false h, Bool.not_false, cond_true, haw]

end Go.Ev
end

