import Derived.Test.YtbjoemlcakfkmaaDoorB7
import Derived.Test.YtbjoemlcakfkmaaDoorB5
import Derived.Tactics
import Derived.Tactics2
import Derived.StillTactics
import Derived.Laws.Rows
import Derived.Laws.Cells
import Derived.Laws.Entries
import Derived.Laws.World
import Derived.Laws.Sem
import Derived.Laws.Small
import Derived.Laws.Pointers
import Derived.Laws.StructEq
import Derived.Scope
import Derived.LoopTactic
import Derived.LoopN
import Derived.Laws.IdiomRangeMap
import Derived.Maps.RangeRun
set_option linter.all false
section
/-
  FUNCTION 21: printed by a program of our own (wip/gen/st.py). 'masthead/mastheadref25.Next', in continuation form; the evaluator gives it.
-/
set_option linter.all false
set_option maxRecDepth 100000
namespace Go.Ev
open Go.Proofs
variable {A : Type}

-- ============================================================ rnext (function 21)
def rnext_b0 (g_find : (Int × ((List ((List Int) × ((List Int) × Unit))) × Unit)) → (List Int) → (Int → Option A) → Option A) (n : Nat) (line : (List (List Int))) (s : (Int × ((List ((List Int) × ((List Int) × Unit))) × Unit))) (t4 : (Int × ((List Int) × (Int × Unit)))) (k0 : (Int × ((List Int) × (Int × Unit))) → Option A) (k1 : Option A) (r : Int → Option A) (i : Int) : Option A :=
  bif (decide (i < (line.length : Int))) then
    if 0 ≤ i then
      (line[(Int.toNat i)]?).bind fun y1 =>
      g_find s y1 fun r2 =>
      bif (decide (r2 < 0)) then
        if 0 ≤ i then
          (line[(Int.toNat i)]?).bind fun y3 =>
          k0 (3, (y3, (0, ())))
        else none
      else
        if 0 ≤ r2 then
          (s.2.1[(Int.toNat r2)]?).bind fun y4 =>
          bif (decide ((y4.2.1.length : Int) > 0)) then
            if 0 ≤ i then
              (line[(Int.toNat i)]?).bind fun y5 =>
              if 0 ≤ r2 then
                (s.2.1[(Int.toNat r2)]?).bind fun y6 =>
                (y6.2.1[0]?).bind fun y7 =>
                k0 (5, (y5, (y7, ())))
              else none
            else none
          else
            r (IntKind.wrap .i64 (i + 1))
        else none
    else none
  else
    k1

def rnext_l0 (g_find : (Int × ((List ((List Int) × ((List Int) × Unit))) × Unit)) → (List Int) → (Int → Option A) → Option A) (n : Nat) (line : (List (List Int))) (s : (Int × ((List ((List Int) × ((List Int) × Unit))) × Unit))) (t4 : (Int × ((List Int) × (Int × Unit)))) (k0 : (Int × ((List Int) × (Int × Unit))) → Option A) (k1 : Option A) : Nat → Int → Option A
  | 0 => fun _ => none
  | f + 1 => rnext_b0 g_find n line s t4 k0 k1 (rnext_l0 g_find n line s t4 k0 k1 f)

def rnext_p (g_find : (Int × ((List ((List Int) × ((List Int) × Unit))) × Unit)) → (List Int) → (Int → Option A) → Option A) (n : Nat) (a0 : (Int × ((List ((List Int) × ((List Int) × Unit))) × Unit))) (a1 : (List (List Int))) (k : (Int × ((List Int) × (Int × Unit))) → Bool → Option A) : Option A :=
  bif (a0.1 == 0) then
    k (0, ((List.replicate 32 (0 : Int)), (0, ()))) false
  else
    rnext_l0 g_find n a1 a0 (0, ((List.replicate 32 (0 : Int)), (0, ()))) (fun y8 =>
      k y8 true) (
      k (0, ((List.replicate 32 (0 : Int)), (0, ()))) false) n 1

def rnext_k (n : Nat) (a0 : (Int × ((List ((List Int) × ((List Int) × Unit))) × Unit))) (a1 : (List (List Int))) (k : (Int × ((List Int) × (Int × Unit))) → Bool → Option A) : Option A := rnext_p (find_k n) n a0 a1 k

noncomputable def rnext_c0 : Code := codeAt [1, 1, 0, 1, 0, 0] (bodyOf Tryd.f21)
def rnext_d0 : List Nat := [0, 5, 7, 8, 9, 10, 12, 13, 14, 15, 16, 17, 18, 19, 20, 21, 22, 23, 24, 25, 26, 27, 28, 29, 30, 31, 32, 33, 34, 35, 36, 37, 38, 39, 40, 41, 42, 43, 44, 45, 46, 47, 48, 49, 50, 51]
def rnext_y0 : List Nat := [0, 1, 2, 3, 6, 7, 8, 9, 10, 11, 12, 13, 14, 15, 16, 17, 18, 19, 20, 21, 22, 23, 24, 25, 26, 27, 28, 29, 30, 31, 32, 33, 34, 35, 36, 37, 38, 39, 40, 41, 42, 43, 44, 45, 46, 47, 48, 49, 50, 51, 52]
def rnext_sh0 : Shape := ⟨[.any, (.p (.sl kA32u8)), (.ptr 0), .any, (.ptr 1), .any, (.p (.int .i64)), .any, .any, .any, .any, .any, .any, .any, .any, .any, .any, .any, .any, .any, .any, .any, .any, .any, .any, .any, .any, .any, .any, .any, .any, .any, .any, .any, .any, .any, .any, .any, .any, .any, .any, .any, .any, .any, .any, .any, .any, .any, .any, .any, .any, .any, .any], [(.var 48 kT47 (.p kT47)), (.var 67 kT33 (.p kT33))], 0⟩
def rnext_x0_0 (line : (List (List Int))) (s : (Int × ((List ((List Int) × ((List Int) × Unit))) × Unit))) (t4 : (Int × ((List Int) × (Int × Unit)))) (z1 : (Int × ((List Int) × (Int × Unit)))) : St := ⟨[.any, .any, .any, .any, .ptr 0 [], .p .bool true, .any, .any, .any, .any, .any, .any, .any, .any, .any, .any, .any, .any, .any, .any, .any, .any, .any, .any, .any, .any, .any, .any, .any, .any, .any, .any, .any, .any, .any, .any, .any, .any, .any, .any, .any, .any, .any, .any, .any, .any, .any, .any, .any, .any, .any, .any, .any], [.var 67 kT33 (.p kT33 z1)], 0⟩
def rnext_x0_1 (line : (List (List Int))) (s : (Int × ((List ((List Int) × ((List Int) × Unit))) × Unit))) (t4 : (Int × ((List Int) × (Int × Unit)))) : St := ⟨[.any, .any, .any, .any, .ptr 0 [], .any, .any, .any, .any, .any, .any, .any, .any, .any, .any, .any, .any, .any, .any, .any, .any, .any, .any, .any, .any, .any, .any, .any, .any, .any, .any, .any, .any, .any, .any, .any, .any, .any, .any, .any, .any, .any, .any, .any, .any, .any, .any, .any, .any, .any, .any, .any, .any], [.var 67 kT33 (.p kT33 t4)], 0⟩
def rnext_g0 (g_find : (Int × ((List ((List Int) × ((List Int) × Unit))) × Unit)) → (List Int) → (Int → Option A) → Option A) (n : Nat) (d : rnext_sh0.den) (k : Ex → St → Option A) : Option A :=
  rnext_l0 g_find n d.1.2.1 d.2.1 d.2.2.1 (fun z1 => k .ret (rnext_x0_0 d.1.2.1 d.2.1 d.2.2.1 z1)) (k (.exit 0) (rnext_x0_1 d.1.2.1 d.2.1 d.2.2.1)) n d.1.2.2.2.2.2.2.1
noncomputable def rnext_E (g_find : (Int × ((List ((List Int) × ((List Int) × Unit))) × Unit)) → (List Int) → (Int → Option A) → Option A) (n : Nat) : Env A := ⟨tys, gls, [(23, find_ent g_find)], [(0, loopE rnext_d0 rnext_sh0 (rnext_g0 g_find n))], []⟩
theorem rnext_T (g_find : (Int × ((List ((List Int) × ((List Int) × Unit))) × Unit)) → (List Int) → (Int → Option A) → Option A) (n : Nat) : TyOK Tryd.prog (rnext_E g_find n) := tyOK_of rfl tysB
theorem rnext_fns (n : Nat) : FnsOK Tryd.prog (rnext_E (A := A) (find_k n) n) := AllOK.env rfl rfl (AllOK.cons (find_ok n) AllOK.nil)
noncomputable def rnext_LK0 (g_find : (Int × ((List ((List Int) × ((List Int) × Unit))) × Unit)) → (List Int) → (Int → Option A) → Option A) (n : Nat) (line : (List (List Int))) (s : (Int × ((List ((List Int) × ((List Int) × Unit))) × Unit))) (t4 : (Int × ((List Int) × (Int × Unit)))) (k : Ex → St → Option A) (f : Nat) (i : Int) : Option A := loopK (codeK (rnext_E g_find n) 1 rnext_c0) rnext_d0 rnext_y0 f (⟨[.any, .p (.sl kA32u8) line, .ptr 0 [], .any, .ptr 1 [], .any, .p (.int .i64) i, .any, .any, .any, .any, .any, .any, .any, .any, .any, .any, .any, .any, .any, .any, .any, .any, .any, .any, .any, .any, .any, .any, .any, .any, .any, .any, .any, .any, .any, .any, .any, .any, .any, .any, .any, .any, .any, .any, .any, .any, .any, .any, .any, .any, .any, .any], [.var 48 kT47 (.p kT47 s), .var 67 kT33 (.p kT33 t4)], 0⟩) k
theorem rnext_st0 (g_find : (Int × ((List ((List Int) × ((List Int) × Unit))) × Unit)) → (List Int) → (Int → Option A) → Option A) (n f : Nat) (line : (List (List Int))) (s : (Int × ((List ((List Int) × ((List Int) × Unit))) × Unit))) (t4 : (Int × ((List Int) × (Int × Unit)))) (k : Ex → St → Option A) (i : Int) : rnext_LK0 g_find n line s t4 k (f + 1) i = rnext_b0 g_find n line s t4 (fun z1 => k .ret (rnext_x0_0 line s t4 z1)) (k (.exit 0) (rnext_x0_1 line s t4)) (rnext_LK0 g_find n line s t4 k f) i := by kernel_rfl
theorem rnext_le0 (g_find : (Int × ((List ((List Int) × ((List Int) × Unit))) × Unit)) → (List Int) → (Int → Option A) → Option A) (n : Nat) (line : (List (List Int))) (s : (Int × ((List ((List Int) × ((List Int) × Unit))) × Unit))) (t4 : (Int × ((List Int) × (Int × Unit)))) (k : Ex → St → Option A) : ∀ (f : Nat) (i : Int), rnext_LK0 g_find n line s t4 k f i = rnext_l0 g_find n line s t4 (fun z1 => k .ret (rnext_x0_0 line s t4 z1)) (k (.exit 0) (rnext_x0_1 line s t4)) f i := by
  intro f
  induction f with
  | zero => intros; kernel_rfl
  | succ f ih => intro i; exact (rnext_st0 g_find n f line s t4 k i).trans ((congrArg (fun r => rnext_b0 g_find n line s t4 (fun z1 => k .ret (rnext_x0_0 line s t4 z1)) (k (.exit 0) (rnext_x0_1 line s t4)) r i) (funext fun i => ih i)).trans (by kernel_rfl))
theorem rnext_lo0 (n : Nat) : LoopOK Tryd.prog gls rnext_c0 (loopE rnext_d0 rnext_sh0 (rnext_g0 (A := A) (find_k n) n)) :=
  LoopOK.of (rnext_T (find_k n) n) (rnext_fns n) follows (j := 1) (n := n) (xdead := rnext_y0) (lo_of (by kernel_rfl : loopsOf 1 rnext_c0 = []) lo_nil) fun d k => Eq.trans (by kernel_rfl) (rnext_le0 (find_k n) n d.1.2.1 d.2.1 d.2.2.1 k n d.1.2.2.2.2.2.2.1)
theorem rnext_eqg (g_find : (Int × ((List ((List Int) × ((List Int) × Unit))) × Unit)) → (List Int) → (Int → Option A) → Option A) (n : Nat) (a0 : (Int × ((List ((List Int) × ((List Int) × Unit))) × Unit))) (a1 : (List (List Int))) (k : AV → List Blk → Option A) : fnK (rnext_E g_find n) Tryd.f21 [.pure, .pure] [.p kT47 a0, .p (.sl kA32u8) a1] [] k = rnext_p g_find n a0 a1 (fun r0 r1 => k (.tup [.p kT33 r0, .p .bool r1]) []) := by kernel_rfl
theorem rnext_eq (n : Nat) (a0 : (Int × ((List ((List Int) × ((List Int) × Unit))) × Unit))) (a1 : (List (List Int))) (k : AV → List Blk → Option A) : fnK (rnext_E (find_k n) n) Tryd.f21 [.pure, .pure] [.p kT47 a0, .p (.sl kA32u8) a1] [] k = rnext_k n a0 a1 (fun r0 r1 => k (.tup [.p kT33 r0, .p .bool r1]) []) := rnext_eqg (find_k n) n a0 a1 k
def rnext_ent (g : (Int × ((List ((List Int) × ((List Int) × Unit))) × Unit)) → (List (List Int)) → ((Int × ((List Int) × (Int × Unit))) → Bool → Option A) → Option A) : Entry A := pureE fun args k => args2 args kT47 (.sl kA32u8) fun a0 a1 => g a0 a1 (fun r0 r1 => k (.tup [.p kT33 r0, .p .bool r1]) [])
theorem rnext_lo (n : Nat) : ∀ c, Tryd.f21.body = some c → ∀ q ∈ loopsOf 0 c, ∀ L, (rnext_E (A := A) (find_k n) n).lps.lookup q.1 = some L → LoopOK Tryd.prog gls q.2 L :=
  lo_body (E := rnext_E (find_k n) n) (by kernel_rfl : Tryd.f21.body = some (bodyOf Tryd.f21)) (lo_of (E := rnext_E (find_k n) n) (by kernel_rfl : loopsOf 0 (bodyOf Tryd.f21) = [(0, rnext_c0)]) (lo_cons rfl (rnext_lo0 n) lo_nil))
theorem rnext_ok (n : Nat) : FnOK Tryd.prog gls 21 (rnext_ent (A := A) (rnext_k n)) :=
  FnOK.of (rnext_T (find_k n) n) (rnext_fns n) follows ⟨Tryd.func21, by kernel_rfl⟩ (rnext_lo n) (rm := [.pure, .pure]) fun args k out h => by
    obtain ⟨a0, a1, e, h1⟩ := args2_sound h
    subst e; rw [rnext_eq]; exact h1

end Go.Ev
end

section
/-
  FUNCTION 24: printed by a program of our own (wip/gen/st.py). '(*masthead/scan.Scan).Open', in continuation form; the evaluator gives it.
-/
set_option linter.all false
set_option maxRecDepth 100000
namespace Go.Ev
open Go.Proofs
variable {A : Type}

-- ============================================================ open_ (function 24)
def open__b0 (g_tz16 : Int → (Int → Option A) → Option A) (n : Nat) (h0a : Int) (h0bb : Unit) (h0ba : (List ((List Int) × Int))) (k0 : (List Int) → Option A) (r : Int → (List Int) → Option A) (set : Int) (out : (List Int)) : Option A :=
  bif (set != 0) then
    g_tz16 set fun r1 =>
    if (out.length + 1) * 8 ≤ 140737488355328 then
      r (iand .u16 set (IntKind.wrap .u16 (set - 1))) (out ++ [r1])
    else none
  else
    k0 out

def open__l0 (g_tz16 : Int → (Int → Option A) → Option A) (n : Nat) (h0a : Int) (h0bb : Unit) (h0ba : (List ((List Int) × Int))) (k0 : (List Int) → Option A) : Nat → Int → (List Int) → Option A
  | 0 => fun _ _ => none
  | f + 1 => open__b0 g_tz16 n h0a h0bb h0ba k0 (open__l0 g_tz16 n h0a h0bb h0ba k0 f)

def open__p (g_tz16 : Int → (Int → Option A) → Option A) (n : Nat) (x : (List Int)) (sa : Int) (sbb : Unit) (sba : (List ((List Int) × Int))) (k : Int → Unit → (List ((List Int) × Int)) → (List Int) → Option A) : Option A :=
  open__l0 g_tz16 n sa sbb sba (fun y2 =>
    k sa sbb sba y2) n ((mget kA32u8 sba x).getD 0) []

def open__k (n : Nat) (x : (List Int)) (sa : Int) (sbb : Unit) (sba : (List ((List Int) × Int))) (k : Int → Unit → (List ((List Int) × Int)) → (List Int) → Option A) : Option A := open__p (tz16_k n) n x sa sbb sba k

noncomputable def open__c0 : Code := codeAt [1, 1, 0, 1, 0, 0] (bodyOf Tryd.f24)
def open__d0 : List Nat := [0, 1, 3, 4, 7, 8, 9, 10, 11, 12, 13, 14, 15, 16, 17, 18, 19, 20, 21, 22, 23]
def open__y0 : List Nat := [0, 1, 2, 3, 4, 6, 7, 8, 9, 10, 11, 12, 13, 14, 15, 16, 17, 18, 19, 20, 21, 22, 23, 24]
def open__sh0 : Shape := ⟨[.any, .any, .any, .any, .any, (.row 2), (.p (.int .u16)), .any, .any, .any, .any, .any, .any, .any, .any, .any, .any, .any, .any, .any, .any, .any, .any, .any, .any], [(.var 57 kT56 (.pr (.p (.int .i64)) (.pr (.mp 1) (.p .unit)))), (.map kA32u8 (.int .u16)), (.row 3 (.int .i64))], 2⟩
def open__x0_0 (h0a : Int) (h0bb : Unit) (h0ba : (List ((List Int) × Int))) (z3 : (List Int)) : St := ⟨[.any, .any, .any, .any, .any, .row 2, .any, .any, .any, .any, .any, .any, .any, .any, .any, .any, .any, .any, .any, .any, .any, .any, .any, .any, .any], [.var 57 kT56 (.pr (.p (.int .i64) h0a) (.pr (.mp 1) (.p .unit h0bb))), .map kA32u8 (.int .u16) h0ba, .row 3 (.int .i64) z3], 2⟩
def open__g0 (g_tz16 : Int → (Int → Option A) → Option A) (n : Nat) (d : open__sh0.den) (k : Ex → St → Option A) : Option A :=
  open__l0 g_tz16 n d.2.1.1 d.2.1.2.2 d.2.2.1 (fun z3 => k (.exit 0) (open__x0_0 d.2.1.1 d.2.1.2.2 d.2.2.1 z3)) n d.1.2.2.2.2.2.2.1 d.2.2.2.1
noncomputable def open__E (g_tz16 : Int → (Int → Option A) → Option A) (n : Nat) : Env A := ⟨tys, gls, [(16, tz16_ent g_tz16)], [(0, loopE open__d0 open__sh0 (open__g0 g_tz16 n))], []⟩
theorem open__T (g_tz16 : Int → (Int → Option A) → Option A) (n : Nat) : TyOK Tryd.prog (open__E g_tz16 n) := tyOK_of rfl tysB
theorem open__fns (n : Nat) : FnsOK Tryd.prog (open__E (A := A) (tz16_k n) n) := AllOK.env rfl rfl (AllOK.cons (tz16_ok n) AllOK.nil)
noncomputable def open__LK0 (g_tz16 : Int → (Int → Option A) → Option A) (n : Nat) (h0a : Int) (h0bb : Unit) (h0ba : (List ((List Int) × Int))) (k : Ex → St → Option A) (f : Nat) (set : Int) (out : (List Int)) : Option A := loopK (codeK (open__E g_tz16 n) 1 open__c0) open__d0 open__y0 f (⟨[.any, .any, .any, .any, .any, .row 2, .p (.int .u16) set, .any, .any, .any, .any, .any, .any, .any, .any, .any, .any, .any, .any, .any, .any, .any, .any, .any, .any], [.var 57 kT56 (.pr (.p (.int .i64) h0a) (.pr (.mp 1) (.p .unit h0bb))), .map kA32u8 (.int .u16) h0ba, .row 3 (.int .i64) out], 2⟩) k
theorem open__st0 (g_tz16 : Int → (Int → Option A) → Option A) (n f : Nat) (h0a : Int) (h0bb : Unit) (h0ba : (List ((List Int) × Int))) (k : Ex → St → Option A) (set : Int) (out : (List Int)) : open__LK0 g_tz16 n h0a h0bb h0ba k (f + 1) set out = open__b0 g_tz16 n h0a h0bb h0ba (fun z3 => k (.exit 0) (open__x0_0 h0a h0bb h0ba z3)) (open__LK0 g_tz16 n h0a h0bb h0ba k f) set out := by kernel_rfl
theorem open__le0 (g_tz16 : Int → (Int → Option A) → Option A) (n : Nat) (h0a : Int) (h0bb : Unit) (h0ba : (List ((List Int) × Int))) (k : Ex → St → Option A) : ∀ (f : Nat) (set : Int) (out : (List Int)), open__LK0 g_tz16 n h0a h0bb h0ba k f set out = open__l0 g_tz16 n h0a h0bb h0ba (fun z3 => k (.exit 0) (open__x0_0 h0a h0bb h0ba z3)) f set out := by
  intro f
  induction f with
  | zero => intros; kernel_rfl
  | succ f ih => intro set out; exact (open__st0 g_tz16 n f h0a h0bb h0ba k set out).trans ((congrArg (fun r => open__b0 g_tz16 n h0a h0bb h0ba (fun z3 => k (.exit 0) (open__x0_0 h0a h0bb h0ba z3)) r set out) (funext fun set => funext fun out => ih set out)).trans (by kernel_rfl))
theorem open__lo0 (n : Nat) : LoopOK Tryd.prog gls open__c0 (loopE open__d0 open__sh0 (open__g0 (A := A) (tz16_k n) n)) :=
  LoopOK.of (open__T (tz16_k n) n) (open__fns n) follows (j := 1) (n := n) (xdead := open__y0) (lo_of (by kernel_rfl : loopsOf 1 open__c0 = []) lo_nil) fun d k => Eq.trans (by kernel_rfl) (open__le0 (tz16_k n) n d.2.1.1 d.2.1.2.2 d.2.2.1 k n d.1.2.2.2.2.2.2.1 d.2.2.2.1)
theorem open__eqg (g_tz16 : Int → (Int → Option A) → Option A) (n : Nat) (x : (List Int)) (sa : Int) (sbb : Unit) (sba : (List ((List Int) × Int))) (k : AV → List Blk → Option A) : fnK (open__E g_tz16 n) Tryd.f24 [.own] [.ptr 0 [], .p kA32u8 x] [.var 57 kT56 (.pr (.p (.int .i64) sa) (.pr (.mp 1) (.p .unit sbb))), .map kA32u8 (.int .u16) sba] k = open__p g_tz16 n x sa sbb sba (fun r0 r1 r2 r3 => k (.row 2) [.var 57 kT56 (.pr (.p (.int .i64) r0) (.pr (.mp 1) (.p .unit r1))), .map kA32u8 (.int .u16) r2, .row 3 (.int .i64) r3]) := by kernel_rfl
theorem open__eq (n : Nat) (x : (List Int)) (sa : Int) (sbb : Unit) (sba : (List ((List Int) × Int))) (k : AV → List Blk → Option A) : fnK (open__E (tz16_k n) n) Tryd.f24 [.own] [.ptr 0 [], .p kA32u8 x] [.var 57 kT56 (.pr (.p (.int .i64) sa) (.pr (.mp 1) (.p .unit sbb))), .map kA32u8 (.int .u16) sba] k = open__k n x sa sbb sba (fun r0 r1 r2 r3 => k (.row 2) [.var 57 kT56 (.pr (.p (.int .i64) r0) (.pr (.mp 1) (.p .unit r1))), .map kA32u8 (.int .u16) r2, .row 3 (.int .i64) r3]) := open__eqg (tz16_k n) n x sa sbb sba k
def open__sh : Shape := ⟨[(.ptr 0), (.p kA32u8)], [(.var 57 kT56 (.pr (.p (.int .i64)) (.pr (.mp 1) (.p .unit)))), (.map kA32u8 (.int .u16))], 2⟩
def open__ent (g : (List Int) → Int → Unit → (List ((List Int) × Int)) → (Int → Unit → (List ((List Int) × Int)) → (List Int) → Option A) → Option A) : Entry A := ownE [true, false] open__sh fun d k => g d.1.2.1 d.2.1.1 d.2.1.2.2 d.2.2.1 (fun r0 r1 r2 r3 => k (.row 2) [.var 57 kT56 (.pr (.p (.int .i64) r0) (.pr (.mp 1) (.p .unit r1))), .map kA32u8 (.int .u16) r2, .row 3 (.int .i64) r3])
theorem open__lo (n : Nat) : ∀ c, Tryd.f24.body = some c → ∀ q ∈ loopsOf 0 c, ∀ L, (open__E (A := A) (tz16_k n) n).lps.lookup q.1 = some L → LoopOK Tryd.prog gls q.2 L :=
  lo_body (E := open__E (tz16_k n) n) (by kernel_rfl : Tryd.f24.body = some (bodyOf Tryd.f24)) (lo_of (E := open__E (tz16_k n) n) (by kernel_rfl : loopsOf 0 (bodyOf Tryd.f24) = [(0, open__c0)]) (lo_cons rfl (open__lo0 n) lo_nil))
theorem open__ok (n : Nat) : FnOK Tryd.prog gls 24 (open__ent (A := A) (open__k n)) :=
  FnOK.ofOwn (open__T (tz16_k n) n) (open__fns n) follows ⟨Tryd.func24, by kernel_rfl⟩ (open__lo n) (rm := [.own]) (S := open__sh) fun d k => Eq.trans (by kernel_rfl) (open__eq n d.1.2.1 d.2.1.1 d.2.1.2.2 d.2.2.1 k)

end Go.Ev
end

section
/-
  FUNCTION 25: printed by a program of our own (wip/gen/st.py). 'masthead/mastheadref25.Done', in continuation form; the evaluator gives it.
-/
set_option linter.all false
set_option maxRecDepth 100000
namespace Go.Ev
open Go.Proofs
variable {A : Type}

-- ============================================================ rdone (function 25)
def rdone_p (g_find : (Int × ((List ((List Int) × ((List Int) × Unit))) × Unit)) → (List Int) → (Int → Option A) → Option A) (n : Nat) (a0 : (Int × ((List ((List Int) × ((List Int) × Unit))) × Unit))) (a1 : (List Int)) (k : Bool → Option A) : Option A :=
  g_find a0 a1 fun r1 =>
  bif (decide (r1 ≥ 0)) then
    if 0 ≤ r1 then
      (a0.2.1[(Int.toNat r1)]?).bind fun y2 =>
      k ((y2.2.1.length : Int) == 0)
    else none
  else
    k false

def rdone_k (n : Nat) (a0 : (Int × ((List ((List Int) × ((List Int) × Unit))) × Unit))) (a1 : (List Int)) (k : Bool → Option A) : Option A := rdone_p (find_k n) n a0 a1 k

noncomputable def rdone_E (g_find : (Int × ((List ((List Int) × ((List Int) × Unit))) × Unit)) → (List Int) → (Int → Option A) → Option A) (n : Nat) : Env A := ⟨tys, gls, [(23, find_ent g_find)], [], []⟩
theorem rdone_T (g_find : (Int × ((List ((List Int) × ((List Int) × Unit))) × Unit)) → (List Int) → (Int → Option A) → Option A) (n : Nat) : TyOK Tryd.prog (rdone_E g_find n) := tyOK_of rfl tysB
theorem rdone_fns (n : Nat) : FnsOK Tryd.prog (rdone_E (A := A) (find_k n) n) := AllOK.env rfl rfl (AllOK.cons (find_ok n) AllOK.nil)
theorem rdone_eqg (g_find : (Int × ((List ((List Int) × ((List Int) × Unit))) × Unit)) → (List Int) → (Int → Option A) → Option A) (n : Nat) (a0 : (Int × ((List ((List Int) × ((List Int) × Unit))) × Unit))) (a1 : (List Int)) (k : AV → List Blk → Option A) : fnK (rdone_E g_find n) Tryd.f25 [.pure] [.p kT47 a0, .p kA32u8 a1] [] k = rdone_p g_find n a0 a1 (fun r0 => k (.p .bool r0) []) := by kernel_rfl
theorem rdone_eq (n : Nat) (a0 : (Int × ((List ((List Int) × ((List Int) × Unit))) × Unit))) (a1 : (List Int)) (k : AV → List Blk → Option A) : fnK (rdone_E (find_k n) n) Tryd.f25 [.pure] [.p kT47 a0, .p kA32u8 a1] [] k = rdone_k n a0 a1 (fun r0 => k (.p .bool r0) []) := rdone_eqg (find_k n) n a0 a1 k
def rdone_ent (g : (Int × ((List ((List Int) × ((List Int) × Unit))) × Unit)) → (List Int) → (Bool → Option A) → Option A) : Entry A := pureE fun args k => args2 args kT47 kA32u8 fun a0 a1 => g a0 a1 (fun r0 => k (.p .bool r0) [])
theorem rdone_lo (n : Nat) : ∀ c, Tryd.f25.body = some c → ∀ q ∈ loopsOf 0 c, ∀ L, (rdone_E (A := A) (find_k n) n).lps.lookup q.1 = some L → LoopOK Tryd.prog gls q.2 L :=
  lo_body (E := rdone_E (find_k n) n) (by kernel_rfl : Tryd.f25.body = some (bodyOf Tryd.f25)) (lo_of (E := rdone_E (find_k n) n) (by kernel_rfl : loopsOf 0 (bodyOf Tryd.f25) = []) lo_nil)
theorem rdone_ok (n : Nat) : FnOK Tryd.prog gls 25 (rdone_ent (A := A) (rdone_k n)) :=
  FnOK.of (rdone_T (find_k n) n) (rdone_fns n) follows ⟨Tryd.func25, by kernel_rfl⟩ (rdone_lo n) (rm := [.pure]) fun args k out h => by
    obtain ⟨a0, a1, e, h1⟩ := args2_sound h
    subst e; rw [rdone_eq]; exact h1

end Go.Ev
end

section
/-
  FUNCTION 26 (Count): ranges over a map. The walk, after the kit's worked example of a range over a map.
-/
set_option linter.all false
namespace Go.Ev
open Go.Proofs

/-- How many entries that have been handed out hold 0. -/
def seen0 (seen : Array Nat) : List MapEntry → Int
  | [] => 0
  | x :: l => (if seen.contains x.born && valOf x.val == 0 then 1 else 0) + seen0 seen l

theorem seen0_none : ∀ (es : List MapEntry), seen0 #[] es = 0
  | [] => rfl
  | x :: l => by simp [seen0, seen0_none l]

theorem seen0_other (seen : Array Nat) (b : Nat) : ∀ (es : List MapEntry), b ∉ es.map (·.born) → seen0 (seen.push b) es = seen0 seen es
  | [], _ => rfl
  | x :: l, h => by
    have hx : (x.born == b) = false := by
      cases hc : x.born == b with
      | false => rfl
      | true => exact absurd (List.mem_cons.2 (Or.inl (beq_iff_eq.1 hc).symm)) h
    have ih := seen0_other seen b l (fun e => h (List.mem_cons.2 (Or.inr e)))
    simp only [seen0, contains_push, hx, Bool.or_false, ih]

theorem seen0_push (seen : Array Nat) (e : MapEntry) (hs : seen.contains e.born = false) : ∀ (es : List MapEntry), (es.map (·.born)).Nodup → e ∈ es → seen0 (seen.push e.born) es = seen0 seen es + (if valOf e.val == 0 then 1 else 0)
  | x :: l, hn, he => by
    have hn' : x.born ∉ l.map (·.born) ∧ (l.map (·.born)).Nodup := List.nodup_cons.1 hn
    rcases List.mem_cons.1 he with rfl | h
    · simp only [seen0, contains_push, hs, beq_self_eq_true, Bool.or_true, Bool.true_and, Bool.false_and, Bool.false_eq_true, if_false, seen0_other seen e.born l hn'.1]
      omega
    · have hx : (x.born == e.born) = false := by
        cases hc : x.born == e.born with
        | false => rfl
        | true => exact absurd (by rw [beq_iff_eq.1 hc]; exact List.mem_map.2 ⟨e, h, rfl⟩) hn'.1
      simp only [seen0, contains_push, hx, Bool.or_false, seen0_push seen e hs l hn'.2 h]
      omega

theorem seen0_full (seen : Array Nat) : ∀ (es : List MapEntry), (∀ x ∈ es, seen.contains x.born = true) → seen0 seen es = ((es.countP fun e => valOf e.val == 0 : Nat) : Int)
  | [], _ => rfl
  | x :: l, h => by
    simp only [seen0, h x (List.mem_cons.2 (Or.inl rfl)), Bool.true_and, List.countP_cons, seen0_full seen l (fun y hy => h y (List.mem_cons.2 (Or.inr hy)))]
    split <;> simp <;> omega

theorem iter_set (w : World) (d : Nat) (a : Option Nat) (b : Nat) (c : Array Nat) (e : Nat) (o' : Obj) :
    ChangeMaps.setBlock (({ w with drawn := d } : World).alloc (.mapIter a b c e)) w.heap.size o' = ({ w with drawn := d } : World).alloc o' := by
  have hp : (w.heap.push (.mapIter a b c e)).setIfInBounds w.heap.size o' = w.heap.push o' := by
    apply Array.toList_inj.1
    simp
  show ({ ({ w with drawn := d } : World).alloc (.mapIter a b c e) with heap := (w.heap.push (.mapIter a b c e)).setIfInBounds w.heap.size o' } : World) = _
  rw [hp]
  rfl

theorem iter_new (w : World) (d : Nat) (o : Obj) : (({ w with drawn := d } : World).alloc o).heap[w.heap.size]? = some o := heap_alloc_new ({ w with drawn := d } : World) o
theorem iter_seen (w : World) (d : Nat) (a : Option Nat) (b : Nat) (s : Array Nat) (c : Nat) : (({ w with drawn := d } : World).alloc (.mapIter a b s c)).iterSeen w.heap.size = s := World.iterSeen_alloc ({ w with drawn := d } : World) a b s c

/-- One step of the iterator. -/
theorem iter_next (P : Program) (w : World) (d bm : Nat) (seen : Array Nat) (es : Array MapEntry) (clock : Nat) (hb : w.heap[bm]? = some (.map es clock)) (hold : ∀ x ∈ es.toList, x.born < clock) :
    ((leftOf es seen).size = 0 ∧ ∀ ty, (Instr.next (.pointer (some ⟨w.heap.size, 0, none⟩)) false ty).run P (({ w with drawn := d } : World).alloc (.mapIter (some bm) clock seen clock)) = .ok (.tuple #[.bool false]) (({ w with drawn := d } : World).alloc (.mapIter (some bm) clock seen clock))) ∨
    ∃ e ∈ (leftOf es seen).toList, ∃ d' : Nat, ∀ ty, (Instr.next (.pointer (some ⟨w.heap.size, 0, none⟩)) false ty).run P (({ w with drawn := d } : World).alloc (.mapIter (some bm) clock seen clock)) = .ok (.tuple #[.bool true, e.key, e.val]) (({ w with drawn := d' } : World).alloc (.mapIter (some bm) clock (seen.push e.born) clock)) := by
  have hlt : bm < w.heap.size := by
    rcases Nat.lt_or_ge bm w.heap.size with h | h
    · exact h
    · simp [Array.getElem?_eq_none h] at hb
  have hb' : (({ w with drawn := d } : World).alloc (.mapIter (some bm) clock seen clock)).heap[bm]? = some (.map es clock) := by
    rw [heap_alloc_old ({ w with drawn := d } : World) _ hlt]; exact hb
  rcases run_next_at (P := P) _ 0 w.heap.size bm clock clock seen es clock (iter_new w d _) hb' hold (Nat.le_refl _) with ⟨h1, h2⟩ | ⟨e, he, w1, hw1, h2⟩
  · exact .inl ⟨h1, fun _ => h2⟩
  · rcases hw1 with rfl | rfl
    · exact .inr ⟨e, he, d, fun _ => h2.trans (by rw [iter_set])⟩
    · exact .inr ⟨e, he, d + 1, fun _ => h2.trans (congrArg _ (iter_set w (d + 1) (some bm) clock seen clock _))⟩

theorem iter_entry (P : Program) (w : World) (d bm : Nat) (seen : Array Nat) (es : Array MapEntry) (clock : Nat) (e : MapEntry) (hb : w.heap[bm]? = some (.map es clock)) (he : e ∈ es.toList) (hn : (es.toList.map (·.born)).Nodup) :
    (Instr.entry (.pointer (some ⟨w.heap.size, 0, none⟩))).run P (({ w with drawn := d } : World).alloc (.mapIter (some bm) clock (seen.push e.born) clock)) = .ok (.tuple #[e.key, e.val]) (({ w with drawn := d } : World).alloc (.mapIter (some bm) clock (seen.push e.born) clock)) := by
  have hlt : bm < w.heap.size := by
    rcases Nat.lt_or_ge bm w.heap.size with h | h
    · exact h
    · simp [Array.getElem?_eq_none h] at hb
  exact run_entry_at _ w.heap.size bm clock seen es clock e (iter_new w d _) (by rw [heap_alloc_old ({ w with drawn := d } : World) _ hlt]; exact hb) he hn

set_option maxRecDepth 1000000 in
theorem count_walk (b bm : Nat) (sa : Int) (es : Array MapEntry) (clock : Nat) (w : World) (h0 : w.heap[b]? = some (.cells #[.int .i64 sa, .map (some bm)] 57 (0, 0)))
    (hb : w.heap[bm]? = some (.map es clock)) (hold : ∀ x ∈ es.toList, x.born < clock) (hn : (es.toList.map (·.born)).Nodup) (hv : ∀ x ∈ es.toList, ∃ v, x.val = .int .u16 v) :
    Calls Tryd.prog 26 #[.pointer (some ⟨b, 0, none⟩)] w fun e w' => ∃ (d : Nat) (seen : Array Nat), e = .returned (.int .i64 (IntKind.wrap .i64 (es.toList.countP fun e => valOf e.val == 0))) ∧ w' = ({ w with drawn := d } : World).alloc (.mapIter (some bm) clock seen clock) := by
  have hrg := run_range_map (P := Tryd.prog) w 55 32 58 bm es clock Tryd.underlying55 hb
  have hc : w.cell? ⟨b, 1, none⟩ = some (.map (some bm)) := by simp [World.cell?, h0]
  go_enter Tryd.func26, Tryd.ntmps26
  go_wp2
  go_loopw [3] (fun s w' => ∃ (d : Nat) (seen : Array Nat), w' = ({ w with drawn := d } : World).alloc (.mapIter (some bm) clock seen clock) ∧ s = .int .i64 (IntKind.wrap .i64 (seen0 seen es.toList))) (fun _ w' => (leftOf es (w'.iterSeen w.heap.size)).size)
  case atStart => exact ⟨w.drawn, #[], rfl, by rw [seen0_none]; rfl⟩
  case round =>
    obtain ⟨d, seen, rfl, rfl⟩ := hrel
    rcases iter_next Tryd.prog w d bm seen es clock hb hold with ⟨h1, hnx⟩ | ⟨e, he, d', hnx⟩
    · go_wp2
      go_ret
      rw [seen0_full seen es.toList (all_seen es seen h1)]
      exact ⟨d, seen, rfl, rfl⟩
    · obtain ⟨v, hval⟩ := hv e (mem_left he).1
      have hen := iter_entry Tryd.prog w d' bm seen es clock e hb (mem_left he).1 hn
      rw [hval] at hnx hen
      have hps := seen0_push seen e (mem_left he).2 es.toList hn (mem_left he).1
      rw [hval] at hps
      go_wp2
      · rename_i hv0
        refine ⟨⟨d', seen.push e.born, rfl, ?_⟩, by rw [iter_seen, iter_seen]; exact left_shrinks es seen e he⟩
        rw [hps, if_pos (by simpa [valOf] using hv0)]
        refine congrArg _ ?_
        simp only [RowKit.wrap64, IntKind.wrap, IntKind.signed, IntKind.bits]
        simp
        split <;> omega
      · rename_i hv0
        refine ⟨⟨d', seen.push e.born, rfl, ?_⟩, by rw [iter_seen, iter_seen]; exact left_shrinks es seen e he⟩
        rw [hps, if_neg (by simpa [valOf] using hv0), Int.add_zero]

theorem grow_cx (X : Cx) (ok : Ok X) (w' : World) (h1 : w'.os = X.w.os) (h2 : w'.tape = X.w.tape) (h3 : w'.output = X.w.output) (h4 : X.w.heap.size ≤ w'.heap.size) (h5 : ∀ b, b < X.w.heap.size → w'.heap[b]? = X.w.heap[b]?) :
    Ok ⟨X.ρ, X.hp, X.F, w'⟩ ∧ WEvo X ⟨X.ρ, X.hp, X.F, w'⟩ ∧ HEvo X ⟨X.ρ, X.hp, X.F, w'⟩ := by
  have W : WEvo X ⟨X.ρ, X.hp, X.F, w'⟩ := ⟨h1, h2, h3, h4, fun b c e f hb => ⟨c, by
      have hlt : b < X.w.heap.size := (Array.getElem?_eq_some_iff.1 hb).1
      exact (h5 b hlt).trans hb, rfl⟩, fun b hb _ => h5 b hb, fun _ _ h => h, fun _ h => h, fun _ h => .inl h⟩
  have H : HEvo X ⟨X.ρ, X.hp, X.F, w'⟩ := ⟨fun _ b h hb => ⟨b, h, .refl hb⟩, fun _ _ _ _ => rfl⟩
  refine ⟨⟨fun id b hb => ?_, ok.inj, fun b hb => ⟨Nat.lt_of_lt_of_le (ok.fo b hb).1 h4, (ok.fo b hb).2⟩⟩, W, H⟩
  exact (ok.blk id b hb).evo W H ok.fo rfl fun hl n hn => h5 n (ok.lt ⟨id, b, hb, hl, hn⟩)

variable {A : Type}

-- ============================================================ count (function 26)
def zeros (m : List ((List Int) × Int)) : Int := IntKind.wrap .i64 (m.countP fun e => e.2 == 0)
def count_k (n : Nat) (sa : Int) (sbb : Unit) (sba : (List ((List Int) × Int))) (k : Int → Int → Unit → (List ((List Int) × Int)) → Option A) : Option A := k (zeros sba) sa sbb sba
def count_sh : Shape := ⟨[(.ptr 0)], [(.var 57 kT56 (.pr (.p (.int .i64)) (.pr (.mp 1) (.p .unit)))), (.map kA32u8 (.int .u16))], 2⟩
def count_ent (g : Int → Unit → (List ((List Int) × Int)) → (Int → Int → Unit → (List ((List Int) × Int)) → Option A) → Option A) : Entry A := ownE [true] count_sh fun d k => g d.2.1.1 d.2.1.2.2 d.2.2.1 (fun r0 r1 r2 r3 => k (.p (.int .i64) r0) [.var 57 kT56 (.pr (.p (.int .i64) r1) (.pr (.mp 1) (.p .unit r2))), .map kA32u8 (.int .u16) r3])

theorem count_eq0 {X : Cx} {m : List ((List Int) × Int)} {mes : List MapEntry} (h : All2 (fun e (me : MapEntry) => RS0 X (.p kA32u8 e.1) me.key ∧ RS0 X (.p (.int .u16) e.2) me.val) m mes) :
    (mes.countP fun e => valOf e.val == 0) = (m.countP fun e => e.2 == 0) ∧ ∀ x ∈ mes, ∃ v, x.val = .int .u16 v := by
  induction h with
  | nil => exact ⟨rfl, fun x hx => by cases hx⟩
  | cons h1 _ ih =>
    rename_i e me _ _ _
    have hval : me.val = .int .u16 e.2 := (RS.int (X := X)).1 h1.2
    refine ⟨?_, fun x hx => ?_⟩
    · rw [List.countP_cons, List.countP_cons, ih.1, hval]; rfl
    · rcases List.mem_cons.1 hx with rfl | hx
      · exact ⟨_, hval⟩
      · exact ih.2 x hx

theorem count_sem (sa : Int) (sbb : Unit) (m : List ((List Int) × Int)) :
    FnSem Tryd.prog gls 26 [.ptr 0 []] [.var 57 kT56 (.pr (.p (.int .i64) sa) (.pr (.mp 1) (.p .unit sbb))), .map kA32u8 (.int .u16) m] (.p (.int .i64) (zeros m)) [.var 57 kT56 (.pr (.p (.int .i64) sa) (.pr (.mp 1) (.p .unit sbb))), .map kA32u8 (.int .u16) m] := by
  intro X vals hX ok hglo hargs
  obtain ⟨v, hv, hr⟩ := hargs.get (i := 0) (a := .ptr 0 []) rfl
  have hvals : vals = #[v] := by
    have hl := hargs.length
    apply Array.toList_inj.1
    match hm : vals.toList, hl with
    | [u], _ => rw [hm] at hv; simpa using hv
  have hr1 := (RS.one (by simp) (by simp) (by simp) (by simp)).1 hr
  have e0 : X.hp[0]? = some (.var 57 kT56 (.pr (.p (.int .i64) sa) (.pr (.mp 1) (.p .unit sbb)))) := by rw [hX]; rfl
  have e1 : X.hp[1]? = some (.map kA32u8 (.int .u16) m) := by rw [hX]; rfl
  simp only [R1, e0] at hr1
  obtain ⟨b, off, K', hb, hk, rfl⟩ := hr1
  rw [koff_nil] at hk
  cases hk
  obtain ⟨_, b', cs, hb', hheap, c1, c2, rfl, hc1, c3, c4, rfl, hc3, hc4⟩ := ok.blk 0 _ e0
  rw [hb] at hb'
  cases hb'
  cases (show c1 = [.int .i64 sa] from hc1)
  cases (show c4 = [] from hc4)
  obtain ⟨u, rfl, hu⟩ := hc3
  simp only [R1, e1] at hu
  obtain ⟨bm, hbm, rfl⟩ := hu
  obtain ⟨bm', mes, clock, hbm', hmap, hall, hborn⟩ := ok.blk 1 _ e1
  rw [hbm] at hbm'
  cases hbm'
  obtain ⟨q1, q2⟩ := count_eq0 hall
  have walk := count_walk b bm sa mes clock X.w hheap hmap (fun x hx => hborn.2 _ (List.mem_map.2 ⟨x, hx, rfl⟩)) hborn.1 q2
  rw [hvals]
  refine ⟨_, X.w, MuLone.run_callFunc_enter Tryd.func26 (by kernel_rfl) (by kernel_rfl : Tryd.f26.body = some (bodyOf Tryd.f26)) _ X.w, .inr ⟨rfl, ?_⟩⟩
  refine walk.mono fun e w' h => ?_
  obtain ⟨d, seen, rfl, rfl⟩ := h
  refine ⟨_, rfl, ?_⟩
  obtain ⟨g1, g2, g3⟩ := grow_cx X ok (({ X.w with drawn := d } : World).alloc (.mapIter (some bm) clock seen clock)) rfl rfl rfl (by show X.w.heap.size ≤ (X.w.heap.push _).size; simp) (fun b hb => heap_alloc_old ({ X.w with drawn := d } : World) _ hb)
  refine ⟨⟨X.ρ, X.hp, X.F, _⟩, rfl, hX, ?_, g1, g2, g3.pevo _⟩
  rw [q1]
  exact RS.int.2 rfl

theorem count_ok (n : Nat) : FnOK Tryd.prog gls 26 (count_ent (A := A) (count_k n)) := fun args hp0 k out hr => by
  simp only [count_ent, ownE] at hr
  split at hr
  · rename_i x y hx hy
    rw [shRead_fill hx, bshRead_fill hy]
    exact ⟨_, _, hr, count_sem _ _ _⟩
  · cases hr

end Go.Ev
end

