import Derived.Test.YtbioclollbemeaaRows
import Derived.Test.YtbioclollbemeaaB13
import Derived.Test.YtbioclollbemeaaB4
import Derived.WalkKit
import Derived.ProofKit
import Derived.OpenShut
import Derived.ShutString
import Derived.ChangeOld
import Derived.Below
set_option linter.all false
/-
  THE ROW OF 'PeerNever': the shell, by a program of our own (wip/gen/row.py), after the kit's own.
-/
set_option linter.all false
namespace Go.Proofs.Ytbioclollbemeaa.peerNever
open Go.ChangeShapes Go.WideShapes Go.ChangeAt Go.RowKit Go.Ev Go.Proofs
open Go.ChangeMaps (open_string shut_string)

theorem own : ownKnob Try.prog.godebug = none := by kernel_rfl
theorem laidOut : laidOutB Try.prog = true := by kernel_rfl

theorem walk (a0 : Int) (a1 : Int) (a2 : (List (Int × (Int × (Int × (Int × (Int × Unit))))))) (f0 : WF (.int .i64) a0) (f1 : WF (.int .i64) a1) (f2 : WF (.sl kT32) a2) (W : World) (v0 : Value) (v1 : Value) (v2 : Value) (w0 : RS (X0 (fun b => b < W.heap.size) W) (.p (.int .i64) a0) v0) (w1 : RS (X0 (fun b => b < W.heap.size) W) (.p (.int .i64) a1) v1) (w2 : RS (X0 (fun b => b < W.heap.size) W) (.p (.sl kT32) a2) v2) : Calls Try.prog 4 #[v0, v1, v2] W fun e w' => e = .returned (.bool true) ∧ Below W.heap.size W w' := by
  obtain ⟨n, hn⟩ := Go.Ev.never_law a0 a1 a2 f0 f1 f2
  exact law_calls (E := never_E (awake_k n) (rright_k n) (new__k n) (later_k n) (key_k n) (ask_k n) (tick_k n) (match__k n) (score_k n) (banned_k n) n) (tyOK_of rfl tysB) (never_fns n) follows Try.func4 (never_lo n) (by rw [never_eq]; exact hn) W #[v0, v1, v2] (fun _ => RS.any _) (All2.cons w0 (All2.cons w1 (All2.cons w2 All2.nil)))

set_option maxRecDepth 100000 in
theorem lifted (os : Os) (started : os.Started) (H : Type) (enc : TypeId × Value → H) :
    ReturnsInHanded {} Try.checked os 4 .any (Rows.peerNeverSpec.pre6 enc Try.prog Try.f4 Rows.peerNeverRow.domain false) (Rows.peerNeverSpec.post enc Try.prog Try.f4 false true false false) := by
  refine returnsInHanded_of_change (C := Try.checked) own started (by kernel_rfl) Try.func4
    (ChangeSpec.witness6 (enc := enc) (C := Try.checked) false ⟨#[], #[.int .i64 0, .int .i64 0, .slice none 0 0], []⟩ 8 (by kernel_rfl) (by kernel_rfl) (by kernel_rfl) (by kernel_rfl)) ?_
  intro W base args ds gs before hval0 hW hcnd _
  have hval : ∀ (j : Nat) t v, Try.f4.params[j]? = some t → args[j]? = some v → Value.okWide Try.prog W .any base t v := hval0
  have hW' := hW
  obtain ⟨p, q, hA0, hV, rfl, hfz, hnd⟩ := hW
  have hA : DataW.TrodAll enc Try.prog W 0 (fun _ => true) true Try.f4.params.toList args.toList ds p := hA0
  rw [Try.params4] at hA hval
  obtain ⟨v0, vs0, d0, ds0, p0, q0, hargs, rfl, rfl, h0, r0⟩ := trodAll_cons hA
  obtain ⟨v1, vs1, d1, ds1, p1, q1, rfl, rfl, rfl, h1, r1⟩ := trodAll_cons r0
  obtain ⟨v2, vs2, d2, ds2, p2, q2, rfl, rfl, rfl, h2, r2⟩ := trodAll_cons r1
  obtain ⟨rfl, rfl, rfl⟩ := trodAll_nil r2
  obtain rfl : args = #[v0, v1, v2] := by cases args; simp_all
  obtain ⟨rfl, rfl⟩ := trodVars_none hV
  have lt0 : ∀ x ∈ p0, x.block < W.heap.size := by obtain ⟨m, hm⟩ := h0; exact DataW.trod_lt m _ _ _ hm
  obtain ⟨a0, w0, f0⟩ := arg_sound (E := (⟨tys, gls, [], [], []⟩ : Env Bool)) (tyOK_of rfl tysB) (i := ⟨(.int .i64), .prim, 8, true⟩) rfl rfl (hval 0 3 v0 rfl rfl) h0
  have lt1 : ∀ x ∈ p1, x.block < W.heap.size := by obtain ⟨m, hm⟩ := h1; exact DataW.trod_lt m _ _ _ hm
  obtain ⟨a1, w1, f1⟩ := arg_sound (E := (⟨tys, gls, [], [], []⟩ : Env Bool)) (tyOK_of rfl tysB) (i := ⟨(.int .i64), .prim, 8, true⟩) rfl rfl (hval 1 3 v1 rfl rfl) h1
  have lt2 : ∀ x ∈ p2, x.block < W.heap.size := by obtain ⟨m, hm⟩ := h2; exact DataW.trod_lt m _ _ _ hm
  obtain ⟨a2, w2, f2⟩ := arg_sound (E := (⟨tys, gls, [], [], []⟩ : Env Bool)) (tyOK_of rfl tysB) (i := ⟨(.sl kT32), (.slice 33), 24, false⟩) rfl rfl (hval 2 26 v2 rfl rfl) h2
  clear hA0 hval0
  refine (walk a0 a1 a2 f0 f1 f2 W v0 v1 v2 w0 w1 w2).mono fun e W' ⟨he, bel⟩ => ?_
  subst he
  exact ⟨_, rfl, _, _, _, [], _, [], hW', trodAll_mk1 (shut_bool Try.underlying4 _), (trodAll_cons_mk (Below.trod laidOut (by kernel_rfl) (of_decide_eq_true (by kernel_rfl)) h0 bel lt0) (trodAll_cons_mk (Below.trod laidOut (by kernel_rfl) (of_decide_eq_true (by kernel_rfl)) h1 bel lt1) (trodAll_cons_mk (Below.trod laidOut (by kernel_rfl) (of_decide_eq_true (by kernel_rfl)) h2 bel lt2) trodAll_mk0))), rfl, bel.frame _, fun h => by cases h⟩

theorem over : Rows.peerNeverRow.holds Try.pinned (OpenSpec.ofChange Rows.peerNeverSpec) :=
  OpenClaim.holds_of_wide 4 Try.f4 rfl rfl rfl rfl rfl rfl rfl ⟨rfl, rfl, rfl, rfl, rfl⟩ rfl rfl rfl rfl rfl (by kernel_rfl) Try.func4 (by kernel_rfl)
    (of_decide_eq_true (by kernel_rfl)) (by unfold Func.isWrapper; first | (rw [if_pos (by decide +kernel)]; kernel_rfl) | (rw [if_neg (by decide +kernel)]; exact ⟨rfl, rfl⟩))
    (fun os started H enc _ => lifted os started H enc)

/-- THE STATEMENT. -/
theorem proved : Rows.PeerNeverSaid := over
#print axioms proved
end Go.Proofs.Ytbioclollbemeaa.peerNever
