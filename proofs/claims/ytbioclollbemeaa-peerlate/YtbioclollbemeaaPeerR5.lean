import Derived.Test.YtbioclollbemeaaRows
import Derived.Test.YtbioclollbemeaaB13
import Derived.Test.YtbioclollbemeaaB4
import Derived.WalkKit
import Derived.ProofKit
import Derived.OpenShut
import Derived.ShutString
import Derived.ChangeOld
import Derived.Below
set_option linter.all false
/-
  THE ROW OF 'PeerLate': the shell, by a program of our own (wip/gen/row.py), after the kit's own.
-/
set_option linter.all false
namespace Go.Proofs.Ytbioclollbemeaa.peerLate
open Go.ChangeShapes Go.WideShapes Go.ChangeAt Go.RowKit Go.Ev Go.Proofs
open Go.ChangeMaps (open_string shut_string)

theorem own : ownKnob Try.prog.godebug = none := by kernel_rfl
theorem laidOut : laidOutB Try.prog = true := by kernel_rfl

theorem walk (a0 : (Int × (Int × (Int × ((Int × (Int × (Int × (Int × (Int × Unit))))) × Unit))))) (f0 : WF kT46 a0) (W : World) (v0 : Value) (w0 : RS (X0 (fun b => b < W.heap.size) W) (.p kT46 a0) v0) : Calls Try.prog 5 #[v0] W fun e w' => e = .returned (.bool true) ∧ Below W.heap.size W w' := by
  obtain ⟨n, hn⟩ := Go.Ev.latel_law a0 f0
  exact law_calls (E := latel_E (rright_k n) (awake_k n) (new__k n) (key_k n) (ask_k n) (tick_k n) (late_k n) (wake_k n) (ready_k n) (match__k n) n) (tyOK_of rfl tysB) (latel_fns n) follows Try.func5 (latel_lo n) (by rw [latel_eq]; exact hn) W #[v0] (fun _ => RS.any _) (All2.cons w0 All2.nil)

set_option maxRecDepth 100000 in
theorem lifted (os : Os) (started : os.Started) (H : Type) (enc : TypeId × Value → H) :
    ReturnsInHanded {} Try.checked os 5 .any (Rows.peerLateSpec.pre6 enc Try.prog Try.f5 Rows.peerLateRow.domain false) (Rows.peerLateSpec.post enc Try.prog Try.f5 false true false false) := by
  refine returnsInHanded_of_change (C := Try.checked) own started (by kernel_rfl) Try.func5
    (ChangeSpec.witness6 (enc := enc) (C := Try.checked) false ⟨#[], #[.agg #[.int .i64 0, .int .i64 0, .int .i64 0, .int .i64 0, .int .i64 0, .int .i64 0, .int .i64 0, .int .i64 0]], []⟩ 8 (by kernel_rfl) (by kernel_rfl) (by kernel_rfl) (by kernel_rfl)) ?_
  intro W base args ds gs before hval0 hW hcnd _
  have hval : ∀ (j : Nat) t v, Try.f5.params[j]? = some t → args[j]? = some v → Value.okWide Try.prog W .any base t v := hval0
  have hW' := hW
  obtain ⟨p, q, hA0, hV, rfl, hfz, hnd⟩ := hW
  have hA : DataW.TrodAll enc Try.prog W 0 (fun _ => true) true Try.f5.params.toList args.toList ds p := hA0
  rw [Try.params5] at hA hval
  obtain ⟨v0, vs0, d0, ds0, p0, q0, hargs, rfl, rfl, h0, r0⟩ := trodAll_cons hA
  obtain ⟨rfl, rfl, rfl⟩ := trodAll_nil r0
  obtain rfl : args = #[v0] := by cases args; simp_all
  obtain ⟨rfl, rfl⟩ := trodVars_none hV
  have lt0 : ∀ x ∈ p0, x.block < W.heap.size := by obtain ⟨m, hm⟩ := h0; exact DataW.trod_lt m _ _ _ hm
  obtain ⟨a0, w0, f0⟩ := arg_sound (E := (⟨tys, gls, [], [], []⟩ : Env Bool)) (tyOK_of rfl tysB) (i := ⟨kT46, (.struct [3, 3, 3, 33]), 64, true⟩) rfl rfl (hval 0 47 v0 rfl rfl) h0
  clear hA0 hval0
  refine (walk a0 f0 W v0 w0).mono fun e W' ⟨he, bel⟩ => ?_
  subst he
  exact ⟨_, rfl, _, _, _, [], _, [], hW', trodAll_mk1 (shut_bool Try.underlying4 _), (trodAll_cons_mk (Below.trod laidOut (by kernel_rfl) (of_decide_eq_true (by kernel_rfl)) h0 bel lt0) trodAll_mk0), rfl, bel.frame _, fun h => by cases h⟩

theorem over : Rows.peerLateRow.holds Try.pinned (OpenSpec.ofChange Rows.peerLateSpec) :=
  OpenClaim.holds_of_wide 5 Try.f5 rfl rfl rfl rfl rfl rfl rfl ⟨rfl, rfl, rfl, rfl, rfl⟩ rfl rfl rfl rfl rfl (by kernel_rfl) Try.func5 (by kernel_rfl)
    (of_decide_eq_true (by kernel_rfl)) (by unfold Func.isWrapper; first | (rw [if_pos (by decide +kernel)]; kernel_rfl) | (rw [if_neg (by decide +kernel)]; exact ⟨rfl, rfl⟩))
    (fun os started H enc _ => lifted os started H enc)

/-- THE STATEMENT. -/
theorem proved : Rows.PeerLateSaid := over
#print axioms proved
end Go.Proofs.Ytbioclollbemeaa.peerLate
