import Derived.Test.YtelhickgimgbaaaRows
import Derived.Test.YtelhickgimgbaaaB9
import Derived.Test.YtelhickgimgbaaaB4
import Derived.WalkKit
import Derived.ProofKit
import Derived.OpenShut
import Derived.ShutString
import Derived.ChangeOld
import Derived.Below
set_option linter.all false
/-
  THE ROW OF 'CompactFalls': the shell, by a program of our own (wip/gen/row.py), after the kit's own.
-/
set_option linter.all false
namespace Go.Proofs.Ytelhickgimgbaaa.compactFalls
open Go.ChangeShapes Go.WideShapes Go.ChangeAt Go.RowKit Go.Ev Go.Proofs
open Go.ChangeMaps (open_string shut_string)

theorem own : ownKnob Try.prog.godebug = none := by kernel_rfl
theorem laidOut : laidOutB Try.prog = true := by kernel_rfl

theorem walk (a0 : (List Int)) (a1 : (List Int)) (f0 : WF kA4u64 a0) (f1 : WF kA4u64 a1) (W : World) (v0 : Value) (v1 : Value) (w0 : RS (X0 (fun b => b < W.heap.size) W) (.p kA4u64 a0) v0) (w1 : RS (X0 (fun b => b < W.heap.size) W) (.p kA4u64 a1) v1) : Calls Try.prog 11 #[v0, v1] W fun e w' => e = .returned (.bool true) ∧ Below W.heap.size W w' := by
  obtain ⟨n, hn⟩ := Go.Ev.falls_law a0 a1 f0 f1
  exact law_calls (E := falls_E (cwork_k n) (ucmp_k n) (uof_k n) (awake_k n) n) (tyOK_of rfl tysB) (falls_fns n) follows Try.func11 (falls_lo n) (by rw [falls_eq]; exact hn) W #[v0, v1] (fun _ => RS.any _) (All2.cons w0 (All2.cons w1 All2.nil))

set_option maxRecDepth 100000 in
theorem lifted (os : Os) (started : os.Started) (H : Type) (enc : TypeId × Value → H) :
    ReturnsInHanded {} Try.checked os 11 .any (Rows.compactFallsSpec.pre6 enc Try.prog Try.f11 Rows.compactFallsRow.domain false) (Rows.compactFallsSpec.post enc Try.prog Try.f11 false true false false) := by
  refine returnsInHanded_of_change (C := Try.checked) own started (by kernel_rfl) Try.func11
    (ChangeSpec.witness6 (enc := enc) (C := Try.checked) false ⟨#[], #[.agg #[.int .u64 0, .int .u64 0, .int .u64 0, .int .u64 0], .agg #[.int .u64 0, .int .u64 0, .int .u64 0, .int .u64 0]], []⟩ 8 (by kernel_rfl) (by kernel_rfl) (by kernel_rfl) (by kernel_rfl)) ?_
  intro W base args ds gs before hval0 hW hcnd _
  have hval : ∀ (j : Nat) t v, Try.f11.params[j]? = some t → args[j]? = some v → Value.okWide Try.prog W .any base t v := hval0
  have hW' := hW
  obtain ⟨p, q, hA0, hV, rfl, hfz, hnd⟩ := hW
  have hA : DataW.TrodAll enc Try.prog W 0 (fun _ => true) true Try.f11.params.toList args.toList ds p := hA0
  rw [Try.params11] at hA hval
  obtain ⟨v0, vs0, d0, ds0, p0, q0, hargs, rfl, rfl, h0, r0⟩ := trodAll_cons hA
  obtain ⟨v1, vs1, d1, ds1, p1, q1, rfl, rfl, rfl, h1, r1⟩ := trodAll_cons r0
  obtain ⟨rfl, rfl, rfl⟩ := trodAll_nil r1
  obtain rfl : args = #[v0, v1] := by cases args; simp_all
  obtain ⟨rfl, rfl⟩ := trodVars_none hV
  have lt0 : ∀ x ∈ p0, x.block < W.heap.size := by obtain ⟨m, hm⟩ := h0; exact DataW.trod_lt m _ _ _ hm
  obtain ⟨a0, w0, f0⟩ := arg_sound (E := (⟨tys, gls, [], [], []⟩ : Env Bool)) (tyOK_of rfl tysB) (i := ⟨kA4u64, (.array 4 23), 32, true⟩) rfl rfl (hval 0 25 v0 rfl rfl) h0
  have lt1 : ∀ x ∈ p1, x.block < W.heap.size := by obtain ⟨m, hm⟩ := h1; exact DataW.trod_lt m _ _ _ hm
  obtain ⟨a1, w1, f1⟩ := arg_sound (E := (⟨tys, gls, [], [], []⟩ : Env Bool)) (tyOK_of rfl tysB) (i := ⟨kA4u64, (.array 4 23), 32, true⟩) rfl rfl (hval 1 25 v1 rfl rfl) h1
  clear hA0 hval0
  refine (walk a0 a1 f0 f1 W v0 v1 w0 w1).mono fun e W' ⟨he, bel⟩ => ?_
  subst he
  exact ⟨_, rfl, _, _, _, [], _, [], hW', trodAll_mk1 (shut_bool Try.underlying4 _), (trodAll_cons_mk (Below.trod laidOut (by kernel_rfl) (of_decide_eq_true (by kernel_rfl)) h0 bel lt0) (trodAll_cons_mk (Below.trod laidOut (by kernel_rfl) (of_decide_eq_true (by kernel_rfl)) h1 bel lt1) trodAll_mk0)), rfl, bel.frame _, fun h => by cases h⟩

theorem over : Rows.compactFallsRow.holds Try.pinned (OpenSpec.ofChange Rows.compactFallsSpec) :=
  OpenClaim.holds_of_wide 11 Try.f11 rfl rfl rfl rfl rfl rfl rfl ⟨rfl, rfl, rfl, rfl, rfl⟩ rfl rfl rfl rfl rfl (by kernel_rfl) Try.func11 (by kernel_rfl)
    (of_decide_eq_true (by kernel_rfl)) (by unfold Func.isWrapper; first | (rw [if_pos (by decide +kernel)]; kernel_rfl) | (rw [if_neg (by decide +kernel)]; exact ⟨rfl, rfl⟩))
    (fun os started H enc _ => lifted os started H enc)

/-- THE STATEMENT. -/
theorem proved : Rows.CompactFallsSaid := over
#print axioms proved
end Go.Proofs.Ytelhickgimgbaaa.compactFalls
