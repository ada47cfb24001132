import Derived.Test.YtbjoemlcakfkmaaDoorB5
set_option linter.all false
section
/-
  FUNCTION 23: printed by a program of our own (wip/gen/st.py). 'masthead/mastheadref25.Find', in continuation form; the evaluator gives it.
-/
set_option linter.all false
set_option maxRecDepth 100000
namespace Go.Ev
open Go.Proofs
variable {A : Type}

-- ============================================================ find (function 23)
def find_b0 (n : Nat) (s : (Int × ((List ((List Int) × ((List Int) × Unit))) × Unit))) (x : (List Int)) (k0 : Int → Option A) (k1 : Option A) (r : Int → Option A) (i : Int) : Option A :=
  bif (decide (i < (s.2.1.length : Int))) then
    if 0 ≤ i then
      (s.2.1[(Int.toNat i)]?).bind fun y1 =>
      bif (deq kA32u8 y1.1 x) then
        k0 i
      else
        r (IntKind.wrap .i64 (i + 1))
    else none
  else
    k1

def find_l0 (n : Nat) (s : (Int × ((List ((List Int) × ((List Int) × Unit))) × Unit))) (x : (List Int)) (k0 : Int → Option A) (k1 : Option A) : Nat → Int → Option A
  | 0 => fun _ => none
  | f + 1 => find_b0 n s x k0 k1 (find_l0 n s x k0 k1 f)

def find_p (n : Nat) (a0 : (Int × ((List ((List Int) × ((List Int) × Unit))) × Unit))) (a1 : (List Int)) (k : Int → Option A) : Option A :=
  find_l0 n a0 a1 (fun y2 =>
    k y2) (
    k (-1)) n 0

def find_k (n : Nat) (a0 : (Int × ((List ((List Int) × ((List Int) × Unit))) × Unit))) (a1 : (List Int)) (k : Int → Option A) : Option A := find_p n a0 a1 k

noncomputable def find_c0 : Code := codeAt [1, 0, 1, 0, 0] (bodyOf Tryd.f23)
def find_d0 : List Nat := [0, 1, 4, 6, 7, 8, 9, 10, 11, 12, 13, 14, 15, 16, 17, 18, 19, 20, 21]
def find_y0 : List Nat := [0, 1, 2, 3, 5, 6, 7, 8, 9, 10, 11, 12, 13, 14, 15, 16, 17, 18, 19, 20, 21]
def find_sh0 : Shape := ⟨[.any, .any, (.ptr 0), (.ptr 1), .any, (.p (.int .i64)), .any, .any, .any, .any, .any, .any, .any, .any, .any, .any, .any, .any, .any, .any, .any, .any], [(.var 48 kT47 (.p kT47)), (.var 31 kA32u8 (.p kA32u8))], 0⟩
def find_x0_0 (s : (Int × ((List ((List Int) × ((List Int) × Unit))) × Unit))) (x : (List Int)) (z0 : Int) : St := ⟨[.any, .any, .any, .any, .p (.int .i64) z0, .any, .any, .any, .any, .any, .any, .any, .any, .any, .any, .any, .any, .any, .any, .any, .any, .any], [], 0⟩
def find_x0_1 (s : (Int × ((List ((List Int) × ((List Int) × Unit))) × Unit))) (x : (List Int)) : St := ⟨[.any, .any, .any, .any, .any, .any, .any, .any, .any, .any, .any, .any, .any, .any, .any, .any, .any, .any, .any, .any, .any, .any], [], 0⟩
def find_g0 (n : Nat) (d : find_sh0.den) (k : Ex → St → Option A) : Option A :=
  find_l0 n d.2.1 d.2.2.1 (fun z0 => k .ret (find_x0_0 d.2.1 d.2.2.1 z0)) (k (.exit 0) (find_x0_1 d.2.1 d.2.2.1)) n d.1.2.2.2.2.2.1
noncomputable def find_E (n : Nat) : Env A := ⟨tys, gls, [], [(0, loopE find_d0 find_sh0 (find_g0 n))], []⟩
theorem find_T {A : Type} (n : Nat) : TyOK Tryd.prog (find_E (A := A) n) := tyOK_of rfl tysB
theorem find_fns (n : Nat) : FnsOK Tryd.prog (find_E (A := A) n) := AllOK.env rfl rfl AllOK.nil
noncomputable def find_LK0 (n : Nat) (s : (Int × ((List ((List Int) × ((List Int) × Unit))) × Unit))) (x : (List Int)) (k : Ex → St → Option A) (f : Nat) (i : Int) : Option A := loopK (codeK (find_E n) 1 find_c0) find_d0 find_y0 f (⟨[.any, .any, .ptr 0 [], .ptr 1 [], .any, .p (.int .i64) i, .any, .any, .any, .any, .any, .any, .any, .any, .any, .any, .any, .any, .any, .any, .any, .any], [.var 48 kT47 (.p kT47 s), .var 31 kA32u8 (.p kA32u8 x)], 0⟩) k
theorem find_st0 (n f : Nat) (s : (Int × ((List ((List Int) × ((List Int) × Unit))) × Unit))) (x : (List Int)) (k : Ex → St → Option A) (i : Int) : find_LK0 n s x k (f + 1) i = find_b0 n s x (fun z0 => k .ret (find_x0_0 s x z0)) (k (.exit 0) (find_x0_1 s x)) (find_LK0 n s x k f) i := by kernel_rfl
theorem find_le0 (n : Nat) (s : (Int × ((List ((List Int) × ((List Int) × Unit))) × Unit))) (x : (List Int)) (k : Ex → St → Option A) : ∀ (f : Nat) (i : Int), find_LK0 n s x k f i = find_l0 n s x (fun z0 => k .ret (find_x0_0 s x z0)) (k (.exit 0) (find_x0_1 s x)) f i := by
  intro f
  induction f with
  | zero => intros; kernel_rfl
  | succ f ih => intro i; exact (find_st0 n f s x k i).trans ((congrArg (fun r => find_b0 n s x (fun z0 => k .ret (find_x0_0 s x z0)) (k (.exit 0) (find_x0_1 s x)) r i) (funext fun i => ih i)).trans (by kernel_rfl))
theorem find_lo0 (n : Nat) : LoopOK Tryd.prog gls find_c0 (loopE find_d0 find_sh0 (find_g0 (A := A) n)) :=
  LoopOK.of (find_T n) (find_fns n) follows (j := 1) (n := n) (xdead := find_y0) (lo_of (by kernel_rfl : loopsOf 1 find_c0 = []) lo_nil) fun d k => Eq.trans (by kernel_rfl) (find_le0 n d.2.1 d.2.2.1 k n d.1.2.2.2.2.2.1)
theorem find_eqg (n : Nat) (a0 : (Int × ((List ((List Int) × ((List Int) × Unit))) × Unit))) (a1 : (List Int)) (k : AV → List Blk → Option A) : fnK (find_E n) Tryd.f23 [.pure] [.p kT47 a0, .p kA32u8 a1] [] k = find_p n a0 a1 (fun r0 => k (.p (.int .i64) r0) []) := by kernel_rfl
theorem find_eq (n : Nat) (a0 : (Int × ((List ((List Int) × ((List Int) × Unit))) × Unit))) (a1 : (List Int)) (k : AV → List Blk → Option A) : fnK (find_E n) Tryd.f23 [.pure] [.p kT47 a0, .p kA32u8 a1] [] k = find_k n a0 a1 (fun r0 => k (.p (.int .i64) r0) []) := find_eqg n a0 a1 k
def find_ent (g : (Int × ((List ((List Int) × ((List Int) × Unit))) × Unit)) → (List Int) → (Int → Option A) → Option A) : Entry A := pureE fun args k => args2 args kT47 kA32u8 fun a0 a1 => g a0 a1 (fun r0 => k (.p (.int .i64) r0) [])
theorem find_lo (n : Nat) : ∀ c, Tryd.f23.body = some c → ∀ q ∈ loopsOf 0 c, ∀ L, (find_E (A := A) n).lps.lookup q.1 = some L → LoopOK Tryd.prog gls q.2 L :=
  lo_body (E := find_E n) (by kernel_rfl : Tryd.f23.body = some (bodyOf Tryd.f23)) (lo_of (E := find_E n) (by kernel_rfl : loopsOf 0 (bodyOf Tryd.f23) = [(0, find_c0)]) (lo_cons rfl (find_lo0 n) lo_nil))
theorem find_ok (n : Nat) : FnOK Tryd.prog gls 23 (find_ent (A := A) (find_k n)) :=
  FnOK.of (find_T n) (find_fns n) follows ⟨Tryd.func23, by kernel_rfl⟩ (find_lo n) (rm := [.pure]) fun args k out h => by
    obtain ⟨a0, a1, e, h1⟩ := args2_sound h
    subst e; rw [find_eq]; exact h1

end Go.Ev
end

section
/-
  FUNCTION 28: printed by a program of our own (wip/gen/st.py). 'masthead/mastheadref25.put', in continuation form; the evaluator gives it.
-/
set_option linter.all false
set_option maxRecDepth 100000
namespace Go.Ev
open Go.Proofs
variable {A : Type}

-- ============================================================ put_ (function 28)
def put__b0 (n : Nat) (t10 : (List ((List Int) × ((List Int) × Unit)))) (t11 : Int) (s : (Int × ((List ((List Int) × ((List Int) × Unit))) × Unit))) (k_ : ((List Int) × ((List Int) × Unit))) (t4 : (Int × ((List ((List Int) × ((List Int) × Unit))) × Unit))) (k0 : Bool → (List ((List Int) × ((List Int) × Unit))) → Option A) (r : Bool → Int → (List ((List Int) × ((List Int) × Unit))) → Option A) (there : Bool) (t12 : Int) (l : (List ((List Int) × ((List Int) × Unit)))) : Option A :=
  bif (decide (t12 < t11)) then
    if 0 ≤ t12 then
      (t10[(Int.toNat t12)]?).bind fun y1 =>
      bif (deq kA32u8 y1.1 k_.1) then
        if (l.length + 1) * 56 ≤ 140737488355328 then
          r true (IntKind.wrap .i64 (t12 + 1)) (l ++ [k_])
        else none
      else
        if (l.length + 1) * 56 ≤ 140737488355328 then
          r there (IntKind.wrap .i64 (t12 + 1)) (l ++ [y1])
        else none
    else none
  else
    k0 there l

def put__l0 (n : Nat) (t10 : (List ((List Int) × ((List Int) × Unit)))) (t11 : Int) (s : (Int × ((List ((List Int) × ((List Int) × Unit))) × Unit))) (k_ : ((List Int) × ((List Int) × Unit))) (t4 : (Int × ((List ((List Int) × ((List Int) × Unit))) × Unit))) (k0 : Bool → (List ((List Int) × ((List Int) × Unit))) → Option A) : Nat → Bool → Int → (List ((List Int) × ((List Int) × Unit))) → Option A
  | 0 => fun _ _ _ => none
  | f + 1 => put__b0 n t10 t11 s k_ t4 k0 (put__l0 n t10 t11 s k_ t4 k0 f)

def put__p (n : Nat) (a0 : (Int × ((List ((List Int) × ((List Int) × Unit))) × Unit))) (a1 : ((List Int) × ((List Int) × Unit))) (k : (Int × ((List ((List Int) × ((List Int) × Unit))) × Unit)) → Option A) : Option A :=
  put__l0 n a0.2.1 (a0.2.1.length : Int) a0 a1 (0, ([], ())) (fun y2 y3 =>
    bif (!y2) then
      if (y3.length + 1) * 56 ≤ 140737488355328 then
        k (a0.1, ((y3 ++ [a1]), ()))
      else none
    else
      k (a0.1, (y3, ()))) n false 0 []

def put__k (n : Nat) (a0 : (Int × ((List ((List Int) × ((List Int) × Unit))) × Unit))) (a1 : ((List Int) × ((List Int) × Unit))) (k : (Int × ((List ((List Int) × ((List Int) × Unit))) × Unit)) → Option A) : Option A := put__p n a0 a1 k

noncomputable def put__c0 : Code := codeAt [1, 1, 1, 0, 1, 0, 0] (bodyOf Tryd.f28)
def put__d0 : List Nat := [0, 1, 8, 9, 13, 14, 15, 16, 17, 18, 19, 20, 21, 22, 23, 24, 25, 26]
def put__y0 : List Nat := [0, 1, 7, 8, 9, 10, 11, 12, 13, 14, 15, 16, 17, 18, 19, 20, 21, 22, 23, 24, 25, 26, 27, 28, 29, 30, 31, 32, 33, 34, 35, 36]
def put__sh0 : Shape := ⟨[.any, .any, (.ptr 0), (.ptr 1), (.ptr 2), (.row 3), (.p .bool), .any, .any, .any, (.p (.sl kT73)), (.p (.int .i64)), (.p (.int .i64)), .any, .any, .any, .any, .any, .any, .any, .any, .any, .any, .any, .any, .any, .any, .any, .any, .any, .any, .any, .any, .any, .any, .any, .any], [(.var 48 kT47 (.p kT47)), (.var 74 kT73 (.p kT73)), (.var 48 kT47 (.p kT47)), (.row 74 kT73)], 0⟩
def put__x0_0 (t10 : (List ((List Int) × ((List Int) × Unit)))) (t11 : Int) (s : (Int × ((List ((List Int) × ((List Int) × Unit))) × Unit))) (k_ : ((List Int) × ((List Int) × Unit))) (t4 : (Int × ((List ((List Int) × ((List Int) × Unit))) × Unit))) (z0 : Bool) (z4 : (List ((List Int) × ((List Int) × Unit)))) : St := ⟨[.any, .any, .ptr 0 [], .ptr 1 [], .ptr 2 [], .row 3, .p .bool z0, .any, .any, .any, .any, .any, .any, .any, .any, .any, .any, .any, .any, .any, .any, .any, .any, .any, .any, .any, .any, .any, .any, .any, .any, .any, .any, .any, .any, .any, .any], [.var 48 kT47 (.p kT47 s), .var 74 kT73 (.p kT73 k_), .var 48 kT47 (.p kT47 t4), .row 74 kT73 z4], 0⟩
def put__g0 (n : Nat) (d : put__sh0.den) (k : Ex → St → Option A) : Option A :=
  put__l0 n d.1.2.2.2.2.2.2.2.2.2.2.1 d.1.2.2.2.2.2.2.2.2.2.2.2.1 d.2.1 d.2.2.1 d.2.2.2.1 (fun z0 z4 => k (.exit 0) (put__x0_0 d.1.2.2.2.2.2.2.2.2.2.2.1 d.1.2.2.2.2.2.2.2.2.2.2.2.1 d.2.1 d.2.2.1 d.2.2.2.1 z0 z4)) n d.1.2.2.2.2.2.2.1 d.1.2.2.2.2.2.2.2.2.2.2.2.2.1 d.2.2.2.2.1
noncomputable def put__E (n : Nat) : Env A := ⟨tys, gls, [], [(0, loopE put__d0 put__sh0 (put__g0 n))], []⟩
theorem put__T {A : Type} (n : Nat) : TyOK Tryd.prog (put__E (A := A) n) := tyOK_of rfl tysB
theorem put__fns (n : Nat) : FnsOK Tryd.prog (put__E (A := A) n) := AllOK.env rfl rfl AllOK.nil
noncomputable def put__LK0 (n : Nat) (t10 : (List ((List Int) × ((List Int) × Unit)))) (t11 : Int) (s : (Int × ((List ((List Int) × ((List Int) × Unit))) × Unit))) (k_ : ((List Int) × ((List Int) × Unit))) (t4 : (Int × ((List ((List Int) × ((List Int) × Unit))) × Unit))) (k : Ex → St → Option A) (f : Nat) (there : Bool) (t12 : Int) (l : (List ((List Int) × ((List Int) × Unit)))) : Option A := loopK (codeK (put__E n) 1 put__c0) put__d0 put__y0 f (⟨[.any, .any, .ptr 0 [], .ptr 1 [], .ptr 2 [], .row 3, .p .bool there, .any, .any, .any, .p (.sl kT73) t10, .p (.int .i64) t11, .p (.int .i64) t12, .any, .any, .any, .any, .any, .any, .any, .any, .any, .any, .any, .any, .any, .any, .any, .any, .any, .any, .any, .any, .any, .any, .any, .any], [.var 48 kT47 (.p kT47 s), .var 74 kT73 (.p kT73 k_), .var 48 kT47 (.p kT47 t4), .row 74 kT73 l], 0⟩) k
theorem put__st0 (n f : Nat) (t10 : (List ((List Int) × ((List Int) × Unit)))) (t11 : Int) (s : (Int × ((List ((List Int) × ((List Int) × Unit))) × Unit))) (k_ : ((List Int) × ((List Int) × Unit))) (t4 : (Int × ((List ((List Int) × ((List Int) × Unit))) × Unit))) (k : Ex → St → Option A) (there : Bool) (t12 : Int) (l : (List ((List Int) × ((List Int) × Unit)))) : put__LK0 n t10 t11 s k_ t4 k (f + 1) there t12 l = put__b0 n t10 t11 s k_ t4 (fun z0 z4 => k (.exit 0) (put__x0_0 t10 t11 s k_ t4 z0 z4)) (put__LK0 n t10 t11 s k_ t4 k f) there t12 l := by kernel_rfl
theorem put__le0 (n : Nat) (t10 : (List ((List Int) × ((List Int) × Unit)))) (t11 : Int) (s : (Int × ((List ((List Int) × ((List Int) × Unit))) × Unit))) (k_ : ((List Int) × ((List Int) × Unit))) (t4 : (Int × ((List ((List Int) × ((List Int) × Unit))) × Unit))) (k : Ex → St → Option A) : ∀ (f : Nat) (there : Bool) (t12 : Int) (l : (List ((List Int) × ((List Int) × Unit)))), put__LK0 n t10 t11 s k_ t4 k f there t12 l = put__l0 n t10 t11 s k_ t4 (fun z0 z4 => k (.exit 0) (put__x0_0 t10 t11 s k_ t4 z0 z4)) f there t12 l := by
  intro f
  induction f with
  | zero => intros; kernel_rfl
  | succ f ih => intro there t12 l; exact (put__st0 n f t10 t11 s k_ t4 k there t12 l).trans ((congrArg (fun r => put__b0 n t10 t11 s k_ t4 (fun z0 z4 => k (.exit 0) (put__x0_0 t10 t11 s k_ t4 z0 z4)) r there t12 l) (funext fun there => funext fun t12 => funext fun l => ih there t12 l)).trans (by kernel_rfl))
theorem put__lo0 (n : Nat) : LoopOK Tryd.prog gls put__c0 (loopE put__d0 put__sh0 (put__g0 (A := A) n)) :=
  LoopOK.of (put__T n) (put__fns n) follows (j := 1) (n := n) (xdead := put__y0) (lo_of (by kernel_rfl : loopsOf 1 put__c0 = []) lo_nil) fun d k => Eq.trans (by kernel_rfl) (put__le0 n d.1.2.2.2.2.2.2.2.2.2.2.1 d.1.2.2.2.2.2.2.2.2.2.2.2.1 d.2.1 d.2.2.1 d.2.2.2.1 k n d.1.2.2.2.2.2.2.1 d.1.2.2.2.2.2.2.2.2.2.2.2.2.1 d.2.2.2.2.1)
theorem put__eqg (n : Nat) (a0 : (Int × ((List ((List Int) × ((List Int) × Unit))) × Unit))) (a1 : ((List Int) × ((List Int) × Unit))) (k : AV → List Blk → Option A) : fnK (put__E n) Tryd.f28 [.pure] [.p kT47 a0, .p kT73 a1] [] k = put__p n a0 a1 (fun r0 => k (.p kT47 r0) []) := by kernel_rfl
theorem put__eq (n : Nat) (a0 : (Int × ((List ((List Int) × ((List Int) × Unit))) × Unit))) (a1 : ((List Int) × ((List Int) × Unit))) (k : AV → List Blk → Option A) : fnK (put__E n) Tryd.f28 [.pure] [.p kT47 a0, .p kT73 a1] [] k = put__k n a0 a1 (fun r0 => k (.p kT47 r0) []) := put__eqg n a0 a1 k
def put__ent (g : (Int × ((List ((List Int) × ((List Int) × Unit))) × Unit)) → ((List Int) × ((List Int) × Unit)) → ((Int × ((List ((List Int) × ((List Int) × Unit))) × Unit)) → Option A) → Option A) : Entry A := pureE fun args k => args2 args kT47 kT73 fun a0 a1 => g a0 a1 (fun r0 => k (.p kT47 r0) [])
theorem put__lo (n : Nat) : ∀ c, Tryd.f28.body = some c → ∀ q ∈ loopsOf 0 c, ∀ L, (put__E (A := A) n).lps.lookup q.1 = some L → LoopOK Tryd.prog gls q.2 L :=
  lo_body (E := put__E n) (by kernel_rfl : Tryd.f28.body = some (bodyOf Tryd.f28)) (lo_of (E := put__E n) (by kernel_rfl : loopsOf 0 (bodyOf Tryd.f28) = [(0, put__c0)]) (lo_cons rfl (put__lo0 n) lo_nil))
theorem put__ok (n : Nat) : FnOK Tryd.prog gls 28 (put__ent (A := A) (put__k n)) :=
  FnOK.of (put__T n) (put__fns n) follows ⟨Tryd.func28, by kernel_rfl⟩ (put__lo n) (rm := [.pure]) fun args k out h => by
    obtain ⟨a0, a1, e, h1⟩ := args2_sound h
    subst e; rw [put__eq]; exact h1

end Go.Ev
end

section
/-
  FUNCTION 17: printed by a program of our own (wip/gen/st.py). 'masthead/mastheadref25.Filter', in continuation form; the evaluator gives it.
-/
set_option linter.all false
set_option maxRecDepth 100000
namespace Go.Ev
open Go.Proofs
variable {A : Type}

-- ============================================================ rfilter (function 17)
def rfilter_b0 (g_find : (Int × ((List ((List Int) × ((List Int) × Unit))) × Unit)) → (List Int) → (Int → Option A) → Option A) (g_has : (List Int) → Int → (Bool → Option A) → Option A) (g_put_ : (Int × ((List ((List Int) × ((List Int) × Unit))) × Unit)) → ((List Int) × ((List Int) × Unit)) → ((Int × ((List ((List Int) × ((List Int) × Unit))) × Unit)) → Option A) → Option A) (n : Nat) (items : (List Int)) (s : (Int × ((List ((List Int) × ((List Int) × Unit))) × Unit))) (x : (List Int)) (t6 : (Int × ((List ((List Int) × ((List Int) × Unit))) × Unit))) (k0 : (List Int) → Option A) (r : Int → (List Int) → Option A) (i : Int) (open_ : (List Int)) : Option A :=
  bif (decide (i < s.1)) then
    g_has items i fun r2 =>
    bif r2 then
      if (open_.length + 1) * 8 ≤ 140737488355328 then
        r (IntKind.wrap .i64 (i + 1)) (open_ ++ [i])
      else none
    else
      r (IntKind.wrap .i64 (i + 1)) open_
  else
    k0 open_

def rfilter_l0 (g_find : (Int × ((List ((List Int) × ((List Int) × Unit))) × Unit)) → (List Int) → (Int → Option A) → Option A) (g_has : (List Int) → Int → (Bool → Option A) → Option A) (g_put_ : (Int × ((List ((List Int) × ((List Int) × Unit))) × Unit)) → ((List Int) × ((List Int) × Unit)) → ((Int × ((List ((List Int) × ((List Int) × Unit))) × Unit)) → Option A) → Option A) (n : Nat) (items : (List Int)) (s : (Int × ((List ((List Int) × ((List Int) × Unit))) × Unit))) (x : (List Int)) (t6 : (Int × ((List ((List Int) × ((List Int) × Unit))) × Unit))) (k0 : (List Int) → Option A) : Nat → Int → (List Int) → Option A
  | 0 => fun _ _ => none
  | f + 1 => rfilter_b0 g_find g_has g_put_ n items s x t6 k0 (rfilter_l0 g_find g_has g_put_ n items s x t6 k0 f)

def rfilter_p (g_find : (Int × ((List ((List Int) × ((List Int) × Unit))) × Unit)) → (List Int) → (Int → Option A) → Option A) (g_has : (List Int) → Int → (Bool → Option A) → Option A) (g_put_ : (Int × ((List ((List Int) × ((List Int) × Unit))) × Unit)) → ((List Int) × ((List Int) × Unit)) → ((Int × ((List ((List Int) × ((List Int) × Unit))) × Unit)) → Option A) → Option A) (n : Nat) (a0 : (Int × ((List ((List Int) × ((List Int) × Unit))) × Unit))) (a1 : (List Int)) (a2 : (List Int)) (k : (Int × ((List ((List Int) × ((List Int) × Unit))) × Unit)) → Int → Option A) : Option A :=
  g_find a0 a1 fun r1 =>
  bif (decide (r1 ≥ 0)) then
    k a0 7
  else
    rfilter_l0 g_find g_has g_put_ n a2 a0 a1 (0, ([], ())) (fun y3 =>
      g_put_ a0 (a1, (y3, ())) fun r4 =>
      k r4 0) n 0 []

def rfilter_k (n : Nat) (a0 : (Int × ((List ((List Int) × ((List Int) × Unit))) × Unit))) (a1 : (List Int)) (a2 : (List Int)) (k : (Int × ((List ((List Int) × ((List Int) × Unit))) × Unit)) → Int → Option A) : Option A := rfilter_p (find_k n) (has_k n) (put__k n) n a0 a1 a2 k

noncomputable def rfilter_c0 : Code := codeAt [1, 1, 1, 0, 1, 0, 0] (bodyOf Tryd.f17)
def rfilter_d0 : List Nat := [0, 1, 7, 10, 11, 12, 13, 15, 16, 17, 18, 19, 20, 21, 22, 23, 24, 25, 26, 27]
def rfilter_y0 : List Nat := [0, 1, 2, 5, 7, 9, 10, 11, 12, 13, 14, 15, 16, 17, 18, 19, 20, 21, 22, 23, 24, 25, 26, 27, 28, 29, 30, 31, 32]
def rfilter_sh0 : Shape := ⟨[.any, .any, (.p (.sl (.int .i64))), (.ptr 0), (.ptr 1), .any, (.ptr 2), .any, (.row 3), (.p (.int .i64)), .any, .any, .any, .any, .any, .any, .any, .any, .any, .any, .any, .any, .any, .any, .any, .any, .any, .any, .any, .any, .any, .any, .any], [(.var 48 kT47 (.p kT47)), (.var 31 kA32u8 (.p kA32u8)), (.var 48 kT47 (.p kT47)), (.row 3 (.int .i64))], 0⟩
def rfilter_x0_0 (items : (List Int)) (s : (Int × ((List ((List Int) × ((List Int) × Unit))) × Unit))) (x : (List Int)) (t6 : (Int × ((List ((List Int) × ((List Int) × Unit))) × Unit))) (z3 : (List Int)) : St := ⟨[.any, .any, .any, .ptr 0 [], .ptr 1 [], .any, .ptr 2 [], .any, .row 3, .any, .any, .any, .any, .any, .any, .any, .any, .any, .any, .any, .any, .any, .any, .any, .any, .any, .any, .any, .any, .any, .any, .any, .any], [.var 48 kT47 (.p kT47 s), .var 31 kA32u8 (.p kA32u8 x), .var 48 kT47 (.p kT47 t6), .row 3 (.int .i64) z3], 0⟩
def rfilter_g0 (g_find : (Int × ((List ((List Int) × ((List Int) × Unit))) × Unit)) → (List Int) → (Int → Option A) → Option A) (g_has : (List Int) → Int → (Bool → Option A) → Option A) (g_put_ : (Int × ((List ((List Int) × ((List Int) × Unit))) × Unit)) → ((List Int) × ((List Int) × Unit)) → ((Int × ((List ((List Int) × ((List Int) × Unit))) × Unit)) → Option A) → Option A) (n : Nat) (d : rfilter_sh0.den) (k : Ex → St → Option A) : Option A :=
  rfilter_l0 g_find g_has g_put_ n d.1.2.2.1 d.2.1 d.2.2.1 d.2.2.2.1 (fun z3 => k (.exit 0) (rfilter_x0_0 d.1.2.2.1 d.2.1 d.2.2.1 d.2.2.2.1 z3)) n d.1.2.2.2.2.2.2.2.2.2.1 d.2.2.2.2.1
noncomputable def rfilter_E (g_find : (Int × ((List ((List Int) × ((List Int) × Unit))) × Unit)) → (List Int) → (Int → Option A) → Option A) (g_has : (List Int) → Int → (Bool → Option A) → Option A) (g_put_ : (Int × ((List ((List Int) × ((List Int) × Unit))) × Unit)) → ((List Int) × ((List Int) × Unit)) → ((Int × ((List ((List Int) × ((List Int) × Unit))) × Unit)) → Option A) → Option A) (n : Nat) : Env A := ⟨tys, gls, [(23, find_ent g_find), (27, has_ent g_has), (28, put__ent g_put_)], [(0, loopE rfilter_d0 rfilter_sh0 (rfilter_g0 g_find g_has g_put_ n))], []⟩
theorem rfilter_T (g_find : (Int × ((List ((List Int) × ((List Int) × Unit))) × Unit)) → (List Int) → (Int → Option A) → Option A) (g_has : (List Int) → Int → (Bool → Option A) → Option A) (g_put_ : (Int × ((List ((List Int) × ((List Int) × Unit))) × Unit)) → ((List Int) × ((List Int) × Unit)) → ((Int × ((List ((List Int) × ((List Int) × Unit))) × Unit)) → Option A) → Option A) (n : Nat) : TyOK Tryd.prog (rfilter_E g_find g_has g_put_ n) := tyOK_of rfl tysB
theorem rfilter_fns (n : Nat) : FnsOK Tryd.prog (rfilter_E (A := A) (find_k n) (has_k n) (put__k n) n) := AllOK.env rfl rfl (AllOK.cons (find_ok n) (AllOK.cons (has_ok n) (AllOK.cons (put__ok n) AllOK.nil)))
noncomputable def rfilter_LK0 (g_find : (Int × ((List ((List Int) × ((List Int) × Unit))) × Unit)) → (List Int) → (Int → Option A) → Option A) (g_has : (List Int) → Int → (Bool → Option A) → Option A) (g_put_ : (Int × ((List ((List Int) × ((List Int) × Unit))) × Unit)) → ((List Int) × ((List Int) × Unit)) → ((Int × ((List ((List Int) × ((List Int) × Unit))) × Unit)) → Option A) → Option A) (n : Nat) (items : (List Int)) (s : (Int × ((List ((List Int) × ((List Int) × Unit))) × Unit))) (x : (List Int)) (t6 : (Int × ((List ((List Int) × ((List Int) × Unit))) × Unit))) (k : Ex → St → Option A) (f : Nat) (i : Int) (open_ : (List Int)) : Option A := loopK (codeK (rfilter_E g_find g_has g_put_ n) 1 rfilter_c0) rfilter_d0 rfilter_y0 f (⟨[.any, .any, .p (.sl (.int .i64)) items, .ptr 0 [], .ptr 1 [], .any, .ptr 2 [], .any, .row 3, .p (.int .i64) i, .any, .any, .any, .any, .any, .any, .any, .any, .any, .any, .any, .any, .any, .any, .any, .any, .any, .any, .any, .any, .any, .any, .any], [.var 48 kT47 (.p kT47 s), .var 31 kA32u8 (.p kA32u8 x), .var 48 kT47 (.p kT47 t6), .row 3 (.int .i64) open_], 0⟩) k
theorem rfilter_st0 (g_find : (Int × ((List ((List Int) × ((List Int) × Unit))) × Unit)) → (List Int) → (Int → Option A) → Option A) (g_has : (List Int) → Int → (Bool → Option A) → Option A) (g_put_ : (Int × ((List ((List Int) × ((List Int) × Unit))) × Unit)) → ((List Int) × ((List Int) × Unit)) → ((Int × ((List ((List Int) × ((List Int) × Unit))) × Unit)) → Option A) → Option A) (n f : Nat) (items : (List Int)) (s : (Int × ((List ((List Int) × ((List Int) × Unit))) × Unit))) (x : (List Int)) (t6 : (Int × ((List ((List Int) × ((List Int) × Unit))) × Unit))) (k : Ex → St → Option A) (i : Int) (open_ : (List Int)) : rfilter_LK0 g_find g_has g_put_ n items s x t6 k (f + 1) i open_ = rfilter_b0 g_find g_has g_put_ n items s x t6 (fun z3 => k (.exit 0) (rfilter_x0_0 items s x t6 z3)) (rfilter_LK0 g_find g_has g_put_ n items s x t6 k f) i open_ := by kernel_rfl
theorem rfilter_le0 (g_find : (Int × ((List ((List Int) × ((List Int) × Unit))) × Unit)) → (List Int) → (Int → Option A) → Option A) (g_has : (List Int) → Int → (Bool → Option A) → Option A) (g_put_ : (Int × ((List ((List Int) × ((List Int) × Unit))) × Unit)) → ((List Int) × ((List Int) × Unit)) → ((Int × ((List ((List Int) × ((List Int) × Unit))) × Unit)) → Option A) → Option A) (n : Nat) (items : (List Int)) (s : (Int × ((List ((List Int) × ((List Int) × Unit))) × Unit))) (x : (List Int)) (t6 : (Int × ((List ((List Int) × ((List Int) × Unit))) × Unit))) (k : Ex → St → Option A) : ∀ (f : Nat) (i : Int) (open_ : (List Int)), rfilter_LK0 g_find g_has g_put_ n items s x t6 k f i open_ = rfilter_l0 g_find g_has g_put_ n items s x t6 (fun z3 => k (.exit 0) (rfilter_x0_0 items s x t6 z3)) f i open_ := by
  intro f
  induction f with
  | zero => intros; kernel_rfl
  | succ f ih => intro i open_; exact (rfilter_st0 g_find g_has g_put_ n f items s x t6 k i open_).trans ((congrArg (fun r => rfilter_b0 g_find g_has g_put_ n items s x t6 (fun z3 => k (.exit 0) (rfilter_x0_0 items s x t6 z3)) r i open_) (funext fun i => funext fun open_ => ih i open_)).trans (by kernel_rfl))
theorem rfilter_lo0 (n : Nat) : LoopOK Tryd.prog gls rfilter_c0 (loopE rfilter_d0 rfilter_sh0 (rfilter_g0 (A := A) (find_k n) (has_k n) (put__k n) n)) :=
  LoopOK.of (rfilter_T (find_k n) (has_k n) (put__k n) n) (rfilter_fns n) follows (j := 1) (n := n) (xdead := rfilter_y0) (lo_of (by kernel_rfl : loopsOf 1 rfilter_c0 = []) lo_nil) fun d k => Eq.trans (by kernel_rfl) (rfilter_le0 (find_k n) (has_k n) (put__k n) n d.1.2.2.1 d.2.1 d.2.2.1 d.2.2.2.1 k n d.1.2.2.2.2.2.2.2.2.2.1 d.2.2.2.2.1)
theorem rfilter_eqg (g_find : (Int × ((List ((List Int) × ((List Int) × Unit))) × Unit)) → (List Int) → (Int → Option A) → Option A) (g_has : (List Int) → Int → (Bool → Option A) → Option A) (g_put_ : (Int × ((List ((List Int) × ((List Int) × Unit))) × Unit)) → ((List Int) × ((List Int) × Unit)) → ((Int × ((List ((List Int) × ((List Int) × Unit))) × Unit)) → Option A) → Option A) (n : Nat) (a0 : (Int × ((List ((List Int) × ((List Int) × Unit))) × Unit))) (a1 : (List Int)) (a2 : (List Int)) (k : AV → List Blk → Option A) : fnK (rfilter_E g_find g_has g_put_ n) Tryd.f17 [.pure, .pure] [.p kT47 a0, .p kA32u8 a1, .p (.sl (.int .i64)) a2] [] k = rfilter_p g_find g_has g_put_ n a0 a1 a2 (fun r0 r1 => k (.tup [.p kT47 r0, .p (.int .i64) r1]) []) := by kernel_rfl
theorem rfilter_eq (n : Nat) (a0 : (Int × ((List ((List Int) × ((List Int) × Unit))) × Unit))) (a1 : (List Int)) (a2 : (List Int)) (k : AV → List Blk → Option A) : fnK (rfilter_E (find_k n) (has_k n) (put__k n) n) Tryd.f17 [.pure, .pure] [.p kT47 a0, .p kA32u8 a1, .p (.sl (.int .i64)) a2] [] k = rfilter_k n a0 a1 a2 (fun r0 r1 => k (.tup [.p kT47 r0, .p (.int .i64) r1]) []) := rfilter_eqg (find_k n) (has_k n) (put__k n) n a0 a1 a2 k
def rfilter_ent (g : (Int × ((List ((List Int) × ((List Int) × Unit))) × Unit)) → (List Int) → (List Int) → ((Int × ((List ((List Int) × ((List Int) × Unit))) × Unit)) → Int → Option A) → Option A) : Entry A := pureE fun args k => args3 args kT47 kA32u8 (.sl (.int .i64)) fun a0 a1 a2 => g a0 a1 a2 (fun r0 r1 => k (.tup [.p kT47 r0, .p (.int .i64) r1]) [])
theorem rfilter_lo (n : Nat) : ∀ c, Tryd.f17.body = some c → ∀ q ∈ loopsOf 0 c, ∀ L, (rfilter_E (A := A) (find_k n) (has_k n) (put__k n) n).lps.lookup q.1 = some L → LoopOK Tryd.prog gls q.2 L :=
  lo_body (E := rfilter_E (find_k n) (has_k n) (put__k n) n) (by kernel_rfl : Tryd.f17.body = some (bodyOf Tryd.f17)) (lo_of (E := rfilter_E (find_k n) (has_k n) (put__k n) n) (by kernel_rfl : loopsOf 0 (bodyOf Tryd.f17) = [(0, rfilter_c0)]) (lo_cons rfl (rfilter_lo0 n) lo_nil))
theorem rfilter_ok (n : Nat) : FnOK Tryd.prog gls 17 (rfilter_ent (A := A) (rfilter_k n)) :=
  FnOK.of (rfilter_T (find_k n) (has_k n) (put__k n) n) (rfilter_fns n) follows ⟨Tryd.func17, by kernel_rfl⟩ (rfilter_lo n) (rm := [.pure, .pure]) fun args k out h => by
    obtain ⟨a0, a1, a2, e, h1⟩ := args3_sound h
    subst e; rw [rfilter_eq]; exact h1

end Go.Ev
end

section
/-
  FUNCTION 18: printed by a program of our own (wip/gen/st.py). 'masthead/mastheadref25.Proof', in continuation form; the evaluator gives it.
-/
set_option linter.all false
set_option maxRecDepth 100000
namespace Go.Ev
open Go.Proofs
variable {A : Type}

-- ============================================================ rproof (function 18)
def rproof_b0 (g_find : (Int × ((List ((List Int) × ((List Int) × Unit))) × Unit)) → (List Int) → (Int → Option A) → Option A) (g_has : (List Int) → Int → (Bool → Option A) → Option A) (g_put_ : (Int × ((List ((List Int) × ((List Int) × Unit))) × Unit)) → ((List Int) × ((List Int) × Unit)) → ((Int × ((List ((List Int) × ((List Int) × Unit))) × Unit)) → Option A) → Option A) (n : Nat) (item : Int) (t34 : (List Int)) (t35 : Int) (s : (Int × ((List ((List Int) × ((List Int) × Unit))) × Unit))) (x : (List Int)) (t6 : (Int × ((List ((List Int) × ((List Int) × Unit))) × Unit))) (k0 : (List Int) → Option A) (r : Int → (List Int) → Option A) (t36 : Int) (open_ : (List Int)) : Option A :=
  bif (decide (t36 < t35)) then
    if 0 ≤ t36 then
      (t34[(Int.toNat t36)]?).bind fun y5 =>
      bif (y5 != item) then
        if (open_.length + 1) * 8 ≤ 140737488355328 then
          r (IntKind.wrap .i64 (t36 + 1)) (open_ ++ [y5])
        else none
      else
        r (IntKind.wrap .i64 (t36 + 1)) open_
    else none
  else
    k0 open_

def rproof_l0 (g_find : (Int × ((List ((List Int) × ((List Int) × Unit))) × Unit)) → (List Int) → (Int → Option A) → Option A) (g_has : (List Int) → Int → (Bool → Option A) → Option A) (g_put_ : (Int × ((List ((List Int) × ((List Int) × Unit))) × Unit)) → ((List Int) × ((List Int) × Unit)) → ((Int × ((List ((List Int) × ((List Int) × Unit))) × Unit)) → Option A) → Option A) (n : Nat) (item : Int) (t34 : (List Int)) (t35 : Int) (s : (Int × ((List ((List Int) × ((List Int) × Unit))) × Unit))) (x : (List Int)) (t6 : (Int × ((List ((List Int) × ((List Int) × Unit))) × Unit))) (k0 : (List Int) → Option A) : Nat → Int → (List Int) → Option A
  | 0 => fun _ _ => none
  | f + 1 => rproof_b0 g_find g_has g_put_ n item t34 t35 s x t6 k0 (rproof_l0 g_find g_has g_put_ n item t34 t35 s x t6 k0 f)

def rproof_p (g_find : (Int × ((List ((List Int) × ((List Int) × Unit))) × Unit)) → (List Int) → (Int → Option A) → Option A) (g_has : (List Int) → Int → (Bool → Option A) → Option A) (g_put_ : (Int × ((List ((List Int) × ((List Int) × Unit))) × Unit)) → ((List Int) × ((List Int) × Unit)) → ((Int × ((List ((List Int) × ((List Int) × Unit))) × Unit)) → Option A) → Option A) (n : Nat) (a0 : (Int × ((List ((List Int) × ((List Int) × Unit))) × Unit))) (a1 : (List Int)) (a2 : Int) (k : (Int × ((List ((List Int) × ((List Int) × Unit))) × Unit)) → Int → Option A) : Option A :=
  g_find a0 a1 fun r1 =>
  bif (decide (r1 < 0)) then
    k a0 6
  else
    if 0 ≤ r1 then
      (a0.2.1[(Int.toNat r1)]?).bind fun y2 =>
      g_has y2.2.1 a2 fun r3 =>
      bif (!r3) then
        k a0 6
      else
        if 0 ≤ r1 then
          (a0.2.1[(Int.toNat r1)]?).bind fun y4 =>
          rproof_l0 g_find g_has g_put_ n a2 y4.2.1 (y4.2.1.length : Int) a0 a1 (0, ([], ())) (fun y6 =>
            g_put_ a0 (a1, (y6, ())) fun r7 =>
            k r7 0) n 0 []
        else none
    else none

def rproof_k (n : Nat) (a0 : (Int × ((List ((List Int) × ((List Int) × Unit))) × Unit))) (a1 : (List Int)) (a2 : Int) (k : (Int × ((List ((List Int) × ((List Int) × Unit))) × Unit)) → Int → Option A) : Option A := rproof_p (find_k n) (has_k n) (put__k n) n a0 a1 a2 k

noncomputable def rproof_c0 : Code := codeAt [1, 1, 1, 1, 0, 1, 0, 0] (bodyOf Tryd.f18)
def rproof_d0 : List Nat := [0, 1, 7, 8, 11, 12, 13, 14, 15, 16, 17, 18, 19, 20, 21, 22, 23, 24, 25, 26, 27, 29, 30, 31, 32, 33, 37, 38, 39, 40, 41, 42, 43, 44, 45, 46, 47]
def rproof_y0 : List Nat := [0, 1, 2, 5, 7, 8, 10, 11, 12, 13, 14, 15, 16, 17, 18, 19, 20, 21, 22, 23, 24, 25, 26, 27, 28, 29, 30, 31, 32, 33, 34, 35, 36, 37, 38, 39, 40, 41, 42, 43, 44, 45, 46, 47, 48, 49, 50, 51, 52]
def rproof_sh0 : Shape := ⟨[.any, .any, (.p (.int .i64)), (.ptr 0), (.ptr 1), .any, (.ptr 2), .any, .any, (.row 3), .any, .any, .any, .any, .any, .any, .any, .any, .any, .any, .any, .any, .any, .any, .any, .any, .any, .any, .any, .any, .any, .any, .any, .any, (.p (.sl (.int .i64))), (.p (.int .i64)), (.p (.int .i64)), .any, .any, .any, .any, .any, .any, .any, .any, .any, .any, .any, .any, .any, .any, .any, .any], [(.var 48 kT47 (.p kT47)), (.var 31 kA32u8 (.p kA32u8)), (.var 48 kT47 (.p kT47)), (.row 3 (.int .i64))], 0⟩
def rproof_x0_0 (item : Int) (t34 : (List Int)) (t35 : Int) (s : (Int × ((List ((List Int) × ((List Int) × Unit))) × Unit))) (x : (List Int)) (t6 : (Int × ((List ((List Int) × ((List Int) × Unit))) × Unit))) (z3 : (List Int)) : St := ⟨[.any, .any, .any, .ptr 0 [], .ptr 1 [], .any, .ptr 2 [], .any, .any, .row 3, .any, .any, .any, .any, .any, .any, .any, .any, .any, .any, .any, .any, .any, .any, .any, .any, .any, .any, .any, .any, .any, .any, .any, .any, .any, .any, .any, .any, .any, .any, .any, .any, .any, .any, .any, .any, .any, .any, .any, .any, .any, .any, .any], [.var 48 kT47 (.p kT47 s), .var 31 kA32u8 (.p kA32u8 x), .var 48 kT47 (.p kT47 t6), .row 3 (.int .i64) z3], 0⟩
def rproof_g0 (g_find : (Int × ((List ((List Int) × ((List Int) × Unit))) × Unit)) → (List Int) → (Int → Option A) → Option A) (g_has : (List Int) → Int → (Bool → Option A) → Option A) (g_put_ : (Int × ((List ((List Int) × ((List Int) × Unit))) × Unit)) → ((List Int) × ((List Int) × Unit)) → ((Int × ((List ((List Int) × ((List Int) × Unit))) × Unit)) → Option A) → Option A) (n : Nat) (d : rproof_sh0.den) (k : Ex → St → Option A) : Option A :=
  rproof_l0 g_find g_has g_put_ n d.1.2.2.1 d.1.2.2.2.2.2.2.2.2.2.2.2.2.2.2.2.2.2.2.2.2.2.2.2.2.2.2.2.2.2.2.2.2.2.2.1 d.1.2.2.2.2.2.2.2.2.2.2.2.2.2.2.2.2.2.2.2.2.2.2.2.2.2.2.2.2.2.2.2.2.2.2.2.1 d.2.1 d.2.2.1 d.2.2.2.1 (fun z3 => k (.exit 0) (rproof_x0_0 d.1.2.2.1 d.1.2.2.2.2.2.2.2.2.2.2.2.2.2.2.2.2.2.2.2.2.2.2.2.2.2.2.2.2.2.2.2.2.2.2.1 d.1.2.2.2.2.2.2.2.2.2.2.2.2.2.2.2.2.2.2.2.2.2.2.2.2.2.2.2.2.2.2.2.2.2.2.2.1 d.2.1 d.2.2.1 d.2.2.2.1 z3)) n d.1.2.2.2.2.2.2.2.2.2.2.2.2.2.2.2.2.2.2.2.2.2.2.2.2.2.2.2.2.2.2.2.2.2.2.2.2.1 d.2.2.2.2.1
noncomputable def rproof_E (g_find : (Int × ((List ((List Int) × ((List Int) × Unit))) × Unit)) → (List Int) → (Int → Option A) → Option A) (g_has : (List Int) → Int → (Bool → Option A) → Option A) (g_put_ : (Int × ((List ((List Int) × ((List Int) × Unit))) × Unit)) → ((List Int) × ((List Int) × Unit)) → ((Int × ((List ((List Int) × ((List Int) × Unit))) × Unit)) → Option A) → Option A) (n : Nat) : Env A := ⟨tys, gls, [(23, find_ent g_find), (27, has_ent g_has), (28, put__ent g_put_)], [(0, loopE rproof_d0 rproof_sh0 (rproof_g0 g_find g_has g_put_ n))], []⟩
theorem rproof_T (g_find : (Int × ((List ((List Int) × ((List Int) × Unit))) × Unit)) → (List Int) → (Int → Option A) → Option A) (g_has : (List Int) → Int → (Bool → Option A) → Option A) (g_put_ : (Int × ((List ((List Int) × ((List Int) × Unit))) × Unit)) → ((List Int) × ((List Int) × Unit)) → ((Int × ((List ((List Int) × ((List Int) × Unit))) × Unit)) → Option A) → Option A) (n : Nat) : TyOK Tryd.prog (rproof_E g_find g_has g_put_ n) := tyOK_of rfl tysB
theorem rproof_fns (n : Nat) : FnsOK Tryd.prog (rproof_E (A := A) (find_k n) (has_k n) (put__k n) n) := AllOK.env rfl rfl (AllOK.cons (find_ok n) (AllOK.cons (has_ok n) (AllOK.cons (put__ok n) AllOK.nil)))
noncomputable def rproof_LK0 (g_find : (Int × ((List ((List Int) × ((List Int) × Unit))) × Unit)) → (List Int) → (Int → Option A) → Option A) (g_has : (List Int) → Int → (Bool → Option A) → Option A) (g_put_ : (Int × ((List ((List Int) × ((List Int) × Unit))) × Unit)) → ((List Int) × ((List Int) × Unit)) → ((Int × ((List ((List Int) × ((List Int) × Unit))) × Unit)) → Option A) → Option A) (n : Nat) (item : Int) (t34 : (List Int)) (t35 : Int) (s : (Int × ((List ((List Int) × ((List Int) × Unit))) × Unit))) (x : (List Int)) (t6 : (Int × ((List ((List Int) × ((List Int) × Unit))) × Unit))) (k : Ex → St → Option A) (f : Nat) (t36 : Int) (open_ : (List Int)) : Option A := loopK (codeK (rproof_E g_find g_has g_put_ n) 1 rproof_c0) rproof_d0 rproof_y0 f (⟨[.any, .any, .p (.int .i64) item, .ptr 0 [], .ptr 1 [], .any, .ptr 2 [], .any, .any, .row 3, .any, .any, .any, .any, .any, .any, .any, .any, .any, .any, .any, .any, .any, .any, .any, .any, .any, .any, .any, .any, .any, .any, .any, .any, .p (.sl (.int .i64)) t34, .p (.int .i64) t35, .p (.int .i64) t36, .any, .any, .any, .any, .any, .any, .any, .any, .any, .any, .any, .any, .any, .any, .any, .any], [.var 48 kT47 (.p kT47 s), .var 31 kA32u8 (.p kA32u8 x), .var 48 kT47 (.p kT47 t6), .row 3 (.int .i64) open_], 0⟩) k
theorem rproof_st0 (g_find : (Int × ((List ((List Int) × ((List Int) × Unit))) × Unit)) → (List Int) → (Int → Option A) → Option A) (g_has : (List Int) → Int → (Bool → Option A) → Option A) (g_put_ : (Int × ((List ((List Int) × ((List Int) × Unit))) × Unit)) → ((List Int) × ((List Int) × Unit)) → ((Int × ((List ((List Int) × ((List Int) × Unit))) × Unit)) → Option A) → Option A) (n f : Nat) (item : Int) (t34 : (List Int)) (t35 : Int) (s : (Int × ((List ((List Int) × ((List Int) × Unit))) × Unit))) (x : (List Int)) (t6 : (Int × ((List ((List Int) × ((List Int) × Unit))) × Unit))) (k : Ex → St → Option A) (t36 : Int) (open_ : (List Int)) : rproof_LK0 g_find g_has g_put_ n item t34 t35 s x t6 k (f + 1) t36 open_ = rproof_b0 g_find g_has g_put_ n item t34 t35 s x t6 (fun z3 => k (.exit 0) (rproof_x0_0 item t34 t35 s x t6 z3)) (rproof_LK0 g_find g_has g_put_ n item t34 t35 s x t6 k f) t36 open_ := by kernel_rfl
theorem rproof_le0 (g_find : (Int × ((List ((List Int) × ((List Int) × Unit))) × Unit)) → (List Int) → (Int → Option A) → Option A) (g_has : (List Int) → Int → (Bool → Option A) → Option A) (g_put_ : (Int × ((List ((List Int) × ((List Int) × Unit))) × Unit)) → ((List Int) × ((List Int) × Unit)) → ((Int × ((List ((List Int) × ((List Int) × Unit))) × Unit)) → Option A) → Option A) (n : Nat) (item : Int) (t34 : (List Int)) (t35 : Int) (s : (Int × ((List ((List Int) × ((List Int) × Unit))) × Unit))) (x : (List Int)) (t6 : (Int × ((List ((List Int) × ((List Int) × Unit))) × Unit))) (k : Ex → St → Option A) : ∀ (f : Nat) (t36 : Int) (open_ : (List Int)), rproof_LK0 g_find g_has g_put_ n item t34 t35 s x t6 k f t36 open_ = rproof_l0 g_find g_has g_put_ n item t34 t35 s x t6 (fun z3 => k (.exit 0) (rproof_x0_0 item t34 t35 s x t6 z3)) f t36 open_ := by
  intro f
  induction f with
  | zero => intros; kernel_rfl
  | succ f ih => intro t36 open_; exact (rproof_st0 g_find g_has g_put_ n f item t34 t35 s x t6 k t36 open_).trans ((congrArg (fun r => rproof_b0 g_find g_has g_put_ n item t34 t35 s x t6 (fun z3 => k (.exit 0) (rproof_x0_0 item t34 t35 s x t6 z3)) r t36 open_) (funext fun t36 => funext fun open_ => ih t36 open_)).trans (by kernel_rfl))
theorem rproof_lo0 (n : Nat) : LoopOK Tryd.prog gls rproof_c0 (loopE rproof_d0 rproof_sh0 (rproof_g0 (A := A) (find_k n) (has_k n) (put__k n) n)) :=
  LoopOK.of (rproof_T (find_k n) (has_k n) (put__k n) n) (rproof_fns n) follows (j := 1) (n := n) (xdead := rproof_y0) (lo_of (by kernel_rfl : loopsOf 1 rproof_c0 = []) lo_nil) fun d k => Eq.trans (by kernel_rfl) (rproof_le0 (find_k n) (has_k n) (put__k n) n d.1.2.2.1 d.1.2.2.2.2.2.2.2.2.2.2.2.2.2.2.2.2.2.2.2.2.2.2.2.2.2.2.2.2.2.2.2.2.2.2.1 d.1.2.2.2.2.2.2.2.2.2.2.2.2.2.2.2.2.2.2.2.2.2.2.2.2.2.2.2.2.2.2.2.2.2.2.2.1 d.2.1 d.2.2.1 d.2.2.2.1 k n d.1.2.2.2.2.2.2.2.2.2.2.2.2.2.2.2.2.2.2.2.2.2.2.2.2.2.2.2.2.2.2.2.2.2.2.2.2.1 d.2.2.2.2.1)
theorem rproof_eqg (g_find : (Int × ((List ((List Int) × ((List Int) × Unit))) × Unit)) → (List Int) → (Int → Option A) → Option A) (g_has : (List Int) → Int → (Bool → Option A) → Option A) (g_put_ : (Int × ((List ((List Int) × ((List Int) × Unit))) × Unit)) → ((List Int) × ((List Int) × Unit)) → ((Int × ((List ((List Int) × ((List Int) × Unit))) × Unit)) → Option A) → Option A) (n : Nat) (a0 : (Int × ((List ((List Int) × ((List Int) × Unit))) × Unit))) (a1 : (List Int)) (a2 : Int) (k : AV → List Blk → Option A) : fnK (rproof_E g_find g_has g_put_ n) Tryd.f18 [.pure, .pure] [.p kT47 a0, .p kA32u8 a1, .p (.int .i64) a2] [] k = rproof_p g_find g_has g_put_ n a0 a1 a2 (fun r0 r1 => k (.tup [.p kT47 r0, .p (.int .i64) r1]) []) := by kernel_rfl
theorem rproof_eq (n : Nat) (a0 : (Int × ((List ((List Int) × ((List Int) × Unit))) × Unit))) (a1 : (List Int)) (a2 : Int) (k : AV → List Blk → Option A) : fnK (rproof_E (find_k n) (has_k n) (put__k n) n) Tryd.f18 [.pure, .pure] [.p kT47 a0, .p kA32u8 a1, .p (.int .i64) a2] [] k = rproof_k n a0 a1 a2 (fun r0 r1 => k (.tup [.p kT47 r0, .p (.int .i64) r1]) []) := rproof_eqg (find_k n) (has_k n) (put__k n) n a0 a1 a2 k
def rproof_ent (g : (Int × ((List ((List Int) × ((List Int) × Unit))) × Unit)) → (List Int) → Int → ((Int × ((List ((List Int) × ((List Int) × Unit))) × Unit)) → Int → Option A) → Option A) : Entry A := pureE fun args k => args3 args kT47 kA32u8 (.int .i64) fun a0 a1 a2 => g a0 a1 a2 (fun r0 r1 => k (.tup [.p kT47 r0, .p (.int .i64) r1]) [])
theorem rproof_lo (n : Nat) : ∀ c, Tryd.f18.body = some c → ∀ q ∈ loopsOf 0 c, ∀ L, (rproof_E (A := A) (find_k n) (has_k n) (put__k n) n).lps.lookup q.1 = some L → LoopOK Tryd.prog gls q.2 L :=
  lo_body (E := rproof_E (find_k n) (has_k n) (put__k n) n) (by kernel_rfl : Tryd.f18.body = some (bodyOf Tryd.f18)) (lo_of (E := rproof_E (find_k n) (has_k n) (put__k n) n) (by kernel_rfl : loopsOf 0 (bodyOf Tryd.f18) = [(0, rproof_c0)]) (lo_cons rfl (rproof_lo0 n) lo_nil))
theorem rproof_ok (n : Nat) : FnOK Tryd.prog gls 18 (rproof_ent (A := A) (rproof_k n)) :=
  FnOK.of (rproof_T (find_k n) (has_k n) (put__k n) n) (rproof_fns n) follows ⟨Tryd.func18, by kernel_rfl⟩ (rproof_lo n) (rm := [.pure, .pure]) fun args k out h => by
    obtain ⟨a0, a1, a2, e, h1⟩ := args3_sound h
    subst e; rw [rproof_eq]; exact h1

end Go.Ev
end

section
/-
  FUNCTION 19: printed by a program of our own (wip/gen/st.py). '(*masthead/scan.Scan).Skip', in continuation form; the evaluator gives it.
-/
set_option linter.all false
set_option maxRecDepth 100000
namespace Go.Ev
open Go.Proofs
variable {A : Type}

-- ============================================================ skip (function 19)
def skip_p (n : Nat) (x : (List Int)) (sa : Int) (sbb : Unit) (sba : (List ((List Int) × Int))) (k : Int → Unit → (List ((List Int) × Int)) → Option A) : Option A :=
  k sa sbb (mset kA32u8 sba x 0)

def skip_k (n : Nat) (x : (List Int)) (sa : Int) (sbb : Unit) (sba : (List ((List Int) × Int))) (k : Int → Unit → (List ((List Int) × Int)) → Option A) : Option A := skip_p n x sa sbb sba k

noncomputable def skip_E (n : Nat) : Env A := ⟨tys, gls, [], [], []⟩
theorem skip_T {A : Type} (n : Nat) : TyOK Tryd.prog (skip_E (A := A) n) := tyOK_of rfl tysB
theorem skip_fns (n : Nat) : FnsOK Tryd.prog (skip_E (A := A) n) := AllOK.env rfl rfl AllOK.nil
theorem skip_eqg (n : Nat) (x : (List Int)) (sa : Int) (sbb : Unit) (sba : (List ((List Int) × Int))) (k : AV → List Blk → Option A) : fnK (skip_E n) Tryd.f19 [] [.ptr 0 [], .p kA32u8 x] [.var 57 kT56 (.pr (.p (.int .i64) sa) (.pr (.mp 1) (.p .unit sbb))), .map kA32u8 (.int .u16) sba] k = skip_p n x sa sbb sba (fun r0 r1 r2 => k (.tup []) [.var 57 kT56 (.pr (.p (.int .i64) r0) (.pr (.mp 1) (.p .unit r1))), .map kA32u8 (.int .u16) r2]) := by kernel_rfl
theorem skip_eq (n : Nat) (x : (List Int)) (sa : Int) (sbb : Unit) (sba : (List ((List Int) × Int))) (k : AV → List Blk → Option A) : fnK (skip_E n) Tryd.f19 [] [.ptr 0 [], .p kA32u8 x] [.var 57 kT56 (.pr (.p (.int .i64) sa) (.pr (.mp 1) (.p .unit sbb))), .map kA32u8 (.int .u16) sba] k = skip_k n x sa sbb sba (fun r0 r1 r2 => k (.tup []) [.var 57 kT56 (.pr (.p (.int .i64) r0) (.pr (.mp 1) (.p .unit r1))), .map kA32u8 (.int .u16) r2]) := skip_eqg n x sa sbb sba k
def skip_sh : Shape := ⟨[(.ptr 0), (.p kA32u8)], [(.var 57 kT56 (.pr (.p (.int .i64)) (.pr (.mp 1) (.p .unit)))), (.map kA32u8 (.int .u16))], 2⟩
def skip_ent (g : (List Int) → Int → Unit → (List ((List Int) × Int)) → (Int → Unit → (List ((List Int) × Int)) → Option A) → Option A) : Entry A := ownE [true, false] skip_sh fun d k => g d.1.2.1 d.2.1.1 d.2.1.2.2 d.2.2.1 (fun r0 r1 r2 => k (.tup []) [.var 57 kT56 (.pr (.p (.int .i64) r0) (.pr (.mp 1) (.p .unit r1))), .map kA32u8 (.int .u16) r2])
theorem skip_lo (n : Nat) : ∀ c, Tryd.f19.body = some c → ∀ q ∈ loopsOf 0 c, ∀ L, (skip_E (A := A) n).lps.lookup q.1 = some L → LoopOK Tryd.prog gls q.2 L :=
  lo_body (E := skip_E n) (by kernel_rfl : Tryd.f19.body = some (bodyOf Tryd.f19)) (lo_of (E := skip_E n) (by kernel_rfl : loopsOf 0 (bodyOf Tryd.f19) = []) lo_nil)
theorem skip_ok (n : Nat) : FnOK Tryd.prog gls 19 (skip_ent (A := A) (skip_k n)) :=
  FnOK.ofOwn (skip_T n) (skip_fns n) follows ⟨Tryd.func19, by kernel_rfl⟩ (skip_lo n) (rm := []) (S := skip_sh) fun d k => Eq.trans (by kernel_rfl) (skip_eq n d.1.2.1 d.2.1.1 d.2.1.2.2 d.2.2.1 k)

end Go.Ev
end

section
/-
  FUNCTION 20: printed by a program of our own (wip/gen/st.py). 'masthead/mastheadref25.Skip', in continuation form; the evaluator gives it.
-/
set_option linter.all false
set_option maxRecDepth 100000
namespace Go.Ev
open Go.Proofs
variable {A : Type}

-- ============================================================ rskip (function 20)
def rskip_p (g_put_ : (Int × ((List ((List Int) × ((List Int) × Unit))) × Unit)) → ((List Int) × ((List Int) × Unit)) → ((Int × ((List ((List Int) × ((List Int) × Unit))) × Unit)) → Option A) → Option A) (n : Nat) (a0 : (Int × ((List ((List Int) × ((List Int) × Unit))) × Unit))) (a1 : (List Int)) (k : (Int × ((List ((List Int) × ((List Int) × Unit))) × Unit)) → Option A) : Option A :=
  g_put_ a0 (a1, ([], ())) fun r1 =>
  k r1

def rskip_k (n : Nat) (a0 : (Int × ((List ((List Int) × ((List Int) × Unit))) × Unit))) (a1 : (List Int)) (k : (Int × ((List ((List Int) × ((List Int) × Unit))) × Unit)) → Option A) : Option A := rskip_p (put__k n) n a0 a1 k

noncomputable def rskip_E (g_put_ : (Int × ((List ((List Int) × ((List Int) × Unit))) × Unit)) → ((List Int) × ((List Int) × Unit)) → ((Int × ((List ((List Int) × ((List Int) × Unit))) × Unit)) → Option A) → Option A) (n : Nat) : Env A := ⟨tys, gls, [(28, put__ent g_put_)], [], []⟩
theorem rskip_T (g_put_ : (Int × ((List ((List Int) × ((List Int) × Unit))) × Unit)) → ((List Int) × ((List Int) × Unit)) → ((Int × ((List ((List Int) × ((List Int) × Unit))) × Unit)) → Option A) → Option A) (n : Nat) : TyOK Tryd.prog (rskip_E g_put_ n) := tyOK_of rfl tysB
theorem rskip_fns (n : Nat) : FnsOK Tryd.prog (rskip_E (A := A) (put__k n) n) := AllOK.env rfl rfl (AllOK.cons (put__ok n) AllOK.nil)
theorem rskip_eqg (g_put_ : (Int × ((List ((List Int) × ((List Int) × Unit))) × Unit)) → ((List Int) × ((List Int) × Unit)) → ((Int × ((List ((List Int) × ((List Int) × Unit))) × Unit)) → Option A) → Option A) (n : Nat) (a0 : (Int × ((List ((List Int) × ((List Int) × Unit))) × Unit))) (a1 : (List Int)) (k : AV → List Blk → Option A) : fnK (rskip_E g_put_ n) Tryd.f20 [.pure] [.p kT47 a0, .p kA32u8 a1] [] k = rskip_p g_put_ n a0 a1 (fun r0 => k (.p kT47 r0) []) := by kernel_rfl
theorem rskip_eq (n : Nat) (a0 : (Int × ((List ((List Int) × ((List Int) × Unit))) × Unit))) (a1 : (List Int)) (k : AV → List Blk → Option A) : fnK (rskip_E (put__k n) n) Tryd.f20 [.pure] [.p kT47 a0, .p kA32u8 a1] [] k = rskip_k n a0 a1 (fun r0 => k (.p kT47 r0) []) := rskip_eqg (put__k n) n a0 a1 k
def rskip_ent (g : (Int × ((List ((List Int) × ((List Int) × Unit))) × Unit)) → (List Int) → ((Int × ((List ((List Int) × ((List Int) × Unit))) × Unit)) → Option A) → Option A) : Entry A := pureE fun args k => args2 args kT47 kA32u8 fun a0 a1 => g a0 a1 (fun r0 => k (.p kT47 r0) [])
theorem rskip_lo (n : Nat) : ∀ c, Tryd.f20.body = some c → ∀ q ∈ loopsOf 0 c, ∀ L, (rskip_E (A := A) (put__k n) n).lps.lookup q.1 = some L → LoopOK Tryd.prog gls q.2 L :=
  lo_body (E := rskip_E (put__k n) n) (by kernel_rfl : Tryd.f20.body = some (bodyOf Tryd.f20)) (lo_of (E := rskip_E (put__k n) n) (by kernel_rfl : loopsOf 0 (bodyOf Tryd.f20) = []) lo_nil)
theorem rskip_ok (n : Nat) : FnOK Tryd.prog gls 20 (rskip_ent (A := A) (rskip_k n)) :=
  FnOK.of (rskip_T (put__k n) n) (rskip_fns n) follows ⟨Tryd.func20, by kernel_rfl⟩ (rskip_lo n) (rm := [.pure]) fun args k out h => by
    obtain ⟨a0, a1, e, h1⟩ := args2_sound h
    subst e; rw [rskip_eq]; exact h1

end Go.Ev
end

section
/-
  FUNCTION 13: printed by a program of our own (wip/gen/st.py). 'masthead/mastheadlaw25.step', in continuation form; the evaluator gives it.
-/
set_option linter.all false
set_option maxRecDepth 100000
namespace Go.Ev
open Go.Proofs
variable {A : Type}

-- ============================================================ step (function 13)
def step_p (g_block : Int → ((List Int) → Option A) → Option A) (g_rfilter : (Int × ((List ((List Int) × ((List Int) × Unit))) × Unit)) → (List Int) → (List Int) → ((Int × ((List ((List Int) × ((List Int) × Unit))) × Unit)) → Int → Option A) → Option A) (g_filter : (List Int) → (List Int) → Int → Unit → (List ((List Int) × Int)) → (Int → Int → Unit → (List ((List Int) × Int)) → Option A) → Option A) (g_rproof : (Int × ((List ((List Int) × ((List Int) × Unit))) × Unit)) → (List Int) → Int → ((Int × ((List ((List Int) × ((List Int) × Unit))) × Unit)) → Int → Option A) → Option A) (g_proof : (List Int) → Int → Int → Unit → (List ((List Int) × Int)) → (Int → Int → Unit → (List ((List Int) × Int)) → Option A) → Option A) (g_skip : (List Int) → Int → Unit → (List ((List Int) × Int)) → (Int → Unit → (List ((List Int) × Int)) → Option A) → Option A) (g_rskip : (Int × ((List ((List Int) × ((List Int) × Unit))) × Unit)) → (List Int) → ((Int × ((List ((List Int) × ((List Int) × Unit))) × Unit)) → Option A) → Option A) (n : Nat) (x : (Int × ((List ((List Int) × ((List Int) × Unit))) × Unit))) (o : (Int × (Int × (Int × ((List Int) × Unit))))) (sa : Int) (sbb : Unit) (sba : (List ((List Int) × Int))) (k : (Int × ((List ((List Int) × ((List Int) × Unit))) × Unit)) → Bool → Int → Unit → (List ((List Int) × Int)) → Option A) : Option A :=
  g_block o.2.1 fun r1 =>
  bif (o.1 == 1) then
    g_rfilter x r1 o.2.2.2.1 fun r2 r3 =>
    g_filter r1 o.2.2.2.1 sa sbb sba fun r4 r5 r6 r7 =>
    k r2 (r4 == r3) r5 r6 r7
  else
    bif (o.1 == 2) then
      g_rproof x r1 o.2.2.1 fun r8 r9 =>
      g_proof r1 o.2.2.1 sa sbb sba fun r10 r11 r12 r13 =>
      k r8 (r10 == r9) r11 r12 r13
    else
      bif (o.1 == 3) then
        g_skip r1 sa sbb sba fun r14 r15 r16 =>
        g_rskip x r1 fun r17 =>
        k r17 true r14 r15 r16
      else
        k x true sa sbb sba

def step_k (n : Nat) (x : (Int × ((List ((List Int) × ((List Int) × Unit))) × Unit))) (o : (Int × (Int × (Int × ((List Int) × Unit))))) (sa : Int) (sbb : Unit) (sba : (List ((List Int) × Int))) (k : (Int × ((List ((List Int) × ((List Int) × Unit))) × Unit)) → Bool → Int → Unit → (List ((List Int) × Int)) → Option A) : Option A := step_p (block_k n) (rfilter_k n) (filter_k n) (rproof_k n) (proof_k n) (skip_k n) (rskip_k n) n x o sa sbb sba k

noncomputable def step_E (g_block : Int → ((List Int) → Option A) → Option A) (g_rfilter : (Int × ((List ((List Int) × ((List Int) × Unit))) × Unit)) → (List Int) → (List Int) → ((Int × ((List ((List Int) × ((List Int) × Unit))) × Unit)) → Int → Option A) → Option A) (g_filter : (List Int) → (List Int) → Int → Unit → (List ((List Int) × Int)) → (Int → Int → Unit → (List ((List Int) × Int)) → Option A) → Option A) (g_rproof : (Int × ((List ((List Int) × ((List Int) × Unit))) × Unit)) → (List Int) → Int → ((Int × ((List ((List Int) × ((List Int) × Unit))) × Unit)) → Int → Option A) → Option A) (g_proof : (List Int) → Int → Int → Unit → (List ((List Int) × Int)) → (Int → Int → Unit → (List ((List Int) × Int)) → Option A) → Option A) (g_skip : (List Int) → Int → Unit → (List ((List Int) × Int)) → (Int → Unit → (List ((List Int) × Int)) → Option A) → Option A) (g_rskip : (Int × ((List ((List Int) × ((List Int) × Unit))) × Unit)) → (List Int) → ((Int × ((List ((List Int) × ((List Int) × Unit))) × Unit)) → Option A) → Option A) (n : Nat) : Env A := ⟨tys, gls, [(14, block_ent g_block), (17, rfilter_ent g_rfilter), (11, filter_ent g_filter), (18, rproof_ent g_rproof), (12, proof_ent g_proof), (19, skip_ent g_skip), (20, rskip_ent g_rskip)], [], []⟩
theorem step_T (g_block : Int → ((List Int) → Option A) → Option A) (g_rfilter : (Int × ((List ((List Int) × ((List Int) × Unit))) × Unit)) → (List Int) → (List Int) → ((Int × ((List ((List Int) × ((List Int) × Unit))) × Unit)) → Int → Option A) → Option A) (g_filter : (List Int) → (List Int) → Int → Unit → (List ((List Int) × Int)) → (Int → Int → Unit → (List ((List Int) × Int)) → Option A) → Option A) (g_rproof : (Int × ((List ((List Int) × ((List Int) × Unit))) × Unit)) → (List Int) → Int → ((Int × ((List ((List Int) × ((List Int) × Unit))) × Unit)) → Int → Option A) → Option A) (g_proof : (List Int) → Int → Int → Unit → (List ((List Int) × Int)) → (Int → Int → Unit → (List ((List Int) × Int)) → Option A) → Option A) (g_skip : (List Int) → Int → Unit → (List ((List Int) × Int)) → (Int → Unit → (List ((List Int) × Int)) → Option A) → Option A) (g_rskip : (Int × ((List ((List Int) × ((List Int) × Unit))) × Unit)) → (List Int) → ((Int × ((List ((List Int) × ((List Int) × Unit))) × Unit)) → Option A) → Option A) (n : Nat) : TyOK Tryd.prog (step_E g_block g_rfilter g_filter g_rproof g_proof g_skip g_rskip n) := tyOK_of rfl tysB
theorem step_fns (n : Nat) : FnsOK Tryd.prog (step_E (A := A) (block_k n) (rfilter_k n) (filter_k n) (rproof_k n) (proof_k n) (skip_k n) (rskip_k n) n) := AllOK.env rfl rfl (AllOK.cons (block_ok n) (AllOK.cons (rfilter_ok n) (AllOK.cons (filter_ok n) (AllOK.cons (rproof_ok n) (AllOK.cons (proof_ok n) (AllOK.cons (skip_ok n) (AllOK.cons (rskip_ok n) AllOK.nil)))))))
theorem step_eqg (g_block : Int → ((List Int) → Option A) → Option A) (g_rfilter : (Int × ((List ((List Int) × ((List Int) × Unit))) × Unit)) → (List Int) → (List Int) → ((Int × ((List ((List Int) × ((List Int) × Unit))) × Unit)) → Int → Option A) → Option A) (g_filter : (List Int) → (List Int) → Int → Unit → (List ((List Int) × Int)) → (Int → Int → Unit → (List ((List Int) × Int)) → Option A) → Option A) (g_rproof : (Int × ((List ((List Int) × ((List Int) × Unit))) × Unit)) → (List Int) → Int → ((Int × ((List ((List Int) × ((List Int) × Unit))) × Unit)) → Int → Option A) → Option A) (g_proof : (List Int) → Int → Int → Unit → (List ((List Int) × Int)) → (Int → Int → Unit → (List ((List Int) × Int)) → Option A) → Option A) (g_skip : (List Int) → Int → Unit → (List ((List Int) × Int)) → (Int → Unit → (List ((List Int) × Int)) → Option A) → Option A) (g_rskip : (Int × ((List ((List Int) × ((List Int) × Unit))) × Unit)) → (List Int) → ((Int × ((List ((List Int) × ((List Int) × Unit))) × Unit)) → Option A) → Option A) (n : Nat) (x : (Int × ((List ((List Int) × ((List Int) × Unit))) × Unit))) (o : (Int × (Int × (Int × ((List Int) × Unit))))) (sa : Int) (sbb : Unit) (sba : (List ((List Int) × Int))) (k : AV → List Blk → Option A) : fnK (step_E g_block g_rfilter g_filter g_rproof g_proof g_skip g_rskip n) Tryd.f13 [.pure, .pure] [.ptr 0 [], .p kT47 x, .p kT44 o] [.var 57 kT56 (.pr (.p (.int .i64) sa) (.pr (.mp 1) (.p .unit sbb))), .map kA32u8 (.int .u16) sba] k = step_p g_block g_rfilter g_filter g_rproof g_proof g_skip g_rskip n x o sa sbb sba (fun r0 r1 r2 r3 r4 => k (.tup [.p kT47 r0, .p .bool r1]) [.var 57 kT56 (.pr (.p (.int .i64) r2) (.pr (.mp 1) (.p .unit r3))), .map kA32u8 (.int .u16) r4]) := by kernel_rfl
theorem step_eq (n : Nat) (x : (Int × ((List ((List Int) × ((List Int) × Unit))) × Unit))) (o : (Int × (Int × (Int × ((List Int) × Unit))))) (sa : Int) (sbb : Unit) (sba : (List ((List Int) × Int))) (k : AV → List Blk → Option A) : fnK (step_E (block_k n) (rfilter_k n) (filter_k n) (rproof_k n) (proof_k n) (skip_k n) (rskip_k n) n) Tryd.f13 [.pure, .pure] [.ptr 0 [], .p kT47 x, .p kT44 o] [.var 57 kT56 (.pr (.p (.int .i64) sa) (.pr (.mp 1) (.p .unit sbb))), .map kA32u8 (.int .u16) sba] k = step_k n x o sa sbb sba (fun r0 r1 r2 r3 r4 => k (.tup [.p kT47 r0, .p .bool r1]) [.var 57 kT56 (.pr (.p (.int .i64) r2) (.pr (.mp 1) (.p .unit r3))), .map kA32u8 (.int .u16) r4]) := step_eqg (block_k n) (rfilter_k n) (filter_k n) (rproof_k n) (proof_k n) (skip_k n) (rskip_k n) n x o sa sbb sba k
def step_sh : Shape := ⟨[(.ptr 0), (.p kT47), (.p kT44)], [(.var 57 kT56 (.pr (.p (.int .i64)) (.pr (.mp 1) (.p .unit)))), (.map kA32u8 (.int .u16))], 2⟩
def step_ent (g : (Int × ((List ((List Int) × ((List Int) × Unit))) × Unit)) → (Int × (Int × (Int × ((List Int) × Unit)))) → Int → Unit → (List ((List Int) × Int)) → ((Int × ((List ((List Int) × ((List Int) × Unit))) × Unit)) → Bool → Int → Unit → (List ((List Int) × Int)) → Option A) → Option A) : Entry A := ownE [true, false, false] step_sh fun d k => g d.1.2.1 d.1.2.2.1 d.2.1.1 d.2.1.2.2 d.2.2.1 (fun r0 r1 r2 r3 r4 => k (.tup [.p kT47 r0, .p .bool r1]) [.var 57 kT56 (.pr (.p (.int .i64) r2) (.pr (.mp 1) (.p .unit r3))), .map kA32u8 (.int .u16) r4])
theorem step_lo (n : Nat) : ∀ c, Tryd.f13.body = some c → ∀ q ∈ loopsOf 0 c, ∀ L, (step_E (A := A) (block_k n) (rfilter_k n) (filter_k n) (rproof_k n) (proof_k n) (skip_k n) (rskip_k n) n).lps.lookup q.1 = some L → LoopOK Tryd.prog gls q.2 L :=
  lo_body (E := step_E (block_k n) (rfilter_k n) (filter_k n) (rproof_k n) (proof_k n) (skip_k n) (rskip_k n) n) (by kernel_rfl : Tryd.f13.body = some (bodyOf Tryd.f13)) (lo_of (E := step_E (block_k n) (rfilter_k n) (filter_k n) (rproof_k n) (proof_k n) (skip_k n) (rskip_k n) n) (by kernel_rfl : loopsOf 0 (bodyOf Tryd.f13) = []) lo_nil)
theorem step_ok (n : Nat) : FnOK Tryd.prog gls 13 (step_ent (A := A) (step_k n)) :=
  FnOK.ofOwn (step_T (block_k n) (rfilter_k n) (filter_k n) (rproof_k n) (proof_k n) (skip_k n) (rskip_k n) n) (step_fns n) follows ⟨Tryd.func13, by kernel_rfl⟩ (step_lo n) (rm := [.pure, .pure]) (S := step_sh) fun d k => Eq.trans (by kernel_rfl) (step_eq n d.1.2.1 d.1.2.2.1 d.2.1.1 d.2.1.2.2 d.2.2.1 k)

end Go.Ev
end

