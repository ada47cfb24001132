import Derived.Test.YtbjoemlcakfkmaaDoorRows
import Derived.Test.YtbjoemlcakfkmaaDoorB12
import Derived.Test.YtbjoemlcakfkmaaDoorB4
import Derived.WalkKit
import Derived.ProofKit
import Derived.OpenShut
import Derived.ShutString
import Derived.ChangeOld
import Derived.Below
import Derived.LaidMore
import Derived.MakeChecks
import Derived.Stop.Joined
import Derived.SevenTiedAt
import Derived.Test.YtbjoemlcakfkmaaDoorCards
import Derived.Test.YtbjoemlcakfkmaaDoorTie
set_option linter.all false
/-
  THE ROW OF 'ScanPlays': the shell, by a program of our own (wip/gen/row.py), after the kit's own.
-/
set_option linter.all false
namespace Go.Proofs.YtbjoemlcakfkmaaDoor.scanPlays
open Go.ChangeShapes Go.WideShapes Go.ChangeAt Go.RowKit Go.Ev Go.Proofs
open Go.ChangeMaps (open_string shut_string)

theorem own : ownKnob Tryd.prog.godebug = none := by kernel_rfl
theorem laidOut : laidOutB Tryd.prog = true := by kernel_rfl

theorem gok {W : World} (h : laidMetH Tryd.prog Rows.scanPlaysRow.laid W) : GOK gls (X0 (fun b => b < W.heap.size) W) := by
  rw [MakeChecks.laidMetH_plain _ _ _ (by kernel_rfl)] at h
  obtain ⟨ps, ⟨g0, t0, cs0, f0, p0, q0, hg0, ht0, hv0, hd0, _, _⟩, _, _⟩ := h
  obtain rfl := Option.some.inj ((show Tryd.prog.globalNamed "math/bits.deBruijn32tab" = some 0 by kernel_rfl).symm.trans hg0)
  obtain rfl := Option.some.inj ((show (Tryd.prog.globals[0]?).map (·.type) = some 31 by kernel_rfl).symm.trans ht0)
  intro g
  by_cases hg : g = 0
  · subst hg
    exact laid_RS (l := gl0) Tryd.underlying31 Tryd.underlying5 (by kernel_rfl) (by kernel_rfl) (by kernel_rfl) hg0 hv0 hd0
  · have : gls.lookup g = none := by
      show (match g == 0 with | true => some _ | false => none) = none
      rw [beq_eq_false_iff_ne.2 hg]
    unfold glv
    rw [this]
    exact .inl rfl

theorem door_met (os : Os) (args : Array Value) : laidMetH Tryd.prog Rows.scanPlaysRow.laid ((World.doorLaid Tryd.prog 400 os).forCall (fun _ _ => 0) ⟨#[], args, []⟩).memory :=
  laidMetH_of_parts3 (fuel := 8) (laidMet_of_run' 8 (by kernel_rfl) (by kernel_rfl)) (by kernel_rfl) (by kernel_rfl)

theorem walk (a0 : Int) (a1 : (List (Int × (Int × (Int × ((List Int) × Unit)))))) (a2 : (List Int)) (f0 : WF (.int .i64) a0) (f1 : WF (.sl kT44) a1) (f2 : WF (.sl (.int .u8)) a2) (W : World) (hL : laidMetH Tryd.prog Rows.scanPlaysRow.laid W) (v0 : Value) (v1 : Value) (v2 : Value) (w0 : RS (X0 (fun b => b < W.heap.size) W) (.p (.int .i64) a0) v0) (w1 : RS (X0 (fun b => b < W.heap.size) W) (.p (.sl kT44) a1) v1) (w2 : RS (X0 (fun b => b < W.heap.size) W) (.p (.sl (.int .u8)) a2) v2) : Calls Tryd.prog 5 #[v0, v1, v2] W fun e w' => e = .returned (.bool true) ∧ Below W.heap.size W w' := by
  obtain ⟨n, hn⟩ := Go.Ev.plays_law a0 a1 a2 f0 f1 f2
  exact law_calls (E := plays_E (awake_k n) (new__k n) (step_k n) (row_k n) (same_k n) n) (tyOK_of rfl tysB) (plays_fns n) follows Tryd.func5 (plays_lo n) (by rw [plays_eq]; exact hn) W #[v0, v1, v2] (gok hL) (All2.cons w0 (All2.cons w1 (All2.cons w2 All2.nil)))

set_option maxRecDepth 100000 in
theorem lifted (os : Os) (started : os.Started) (H : Type) (enc : TypeId × Value → H) :
    ReturnsInHanded {} Tryd.checked os 5 .any (fun w args => (Rows.scanPlaysSpec.pre enc Tryd.prog Tryd.f5 [] false w args ∧ laidMetH Tryd.prog Rows.scanPlaysRow.laid w) ∧ sizedMet enc Tryd.prog Tryd.f5 (OpenSpec.ofChange Rows.scanPlaysSpec) false w args) (Rows.scanPlaysSpec.post enc Tryd.prog Tryd.f5 false true false false) := by
  refine returnsInHanded_of_change_and (C := Tryd.checked) (X := fun w _ => laidMetH Tryd.prog Rows.scanPlaysRow.laid w) (fun _ _ _ hh h => h.of_heap hh) own started (by kernel_rfl) Tryd.func5
    (ChangeSpec.witness_shaped (enc := enc) (C := Tryd.checked) (os := os) (X := fun w _ => laidMetH Tryd.prog Rows.scanPlaysRow.laid w) false (World.doorLaid Tryd.prog 400 os) #[.int .i64 0, .slice none 0 0, .slice none 0 0] 8 rfl (World.shaped_of_RefB (by kernel_rfl) (by kernel_rfl)) (by kernel_rfl) (by kernel_rfl) (by kernel_rfl) (door_met os _)) ?_
  intro W base args ds gs before hval0 hW _ _ hL _
  have hval : ∀ (j : Nat) t v, Tryd.f5.params[j]? = some t → args[j]? = some v → Value.okWide Tryd.prog W .any base t v := hval0
  have hW' := hW
  obtain ⟨p, q, hA0, hV, rfl, hfz, hnd⟩ := hW
  have hA : DataW.TrodAll enc Tryd.prog W 0 (fun _ => true) true Tryd.f5.params.toList args.toList ds p := hA0
  rw [Tryd.params5] at hA hval
  obtain ⟨v0, vs0, d0, ds0, p0, q0, hargs, rfl, rfl, h0, r0⟩ := trodAll_cons hA
  obtain ⟨v1, vs1, d1, ds1, p1, q1, rfl, rfl, rfl, h1, r1⟩ := trodAll_cons r0
  obtain ⟨v2, vs2, d2, ds2, p2, q2, rfl, rfl, rfl, h2, r2⟩ := trodAll_cons r1
  obtain ⟨rfl, rfl, rfl⟩ := trodAll_nil r2
  obtain rfl : args = #[v0, v1, v2] := by cases args; simp_all
  obtain ⟨rfl, rfl⟩ := trodVars_none hV
  have lt0 : ∀ x ∈ p0, x.block < W.heap.size := by obtain ⟨m, hm⟩ := h0; exact DataW.trod_lt m _ _ _ hm
  obtain ⟨a0, w0, f0⟩ := arg_sound (E := (⟨tys, gls, [], [], []⟩ : Env Bool)) (tyOK_of rfl tysB) (i := ⟨(.int .i64), .prim, 8, true⟩) rfl rfl (hval 0 3 v0 rfl rfl) h0
  have lt1 : ∀ x ∈ p1, x.block < W.heap.size := by obtain ⟨m, hm⟩ := h1; exact DataW.trod_lt m _ _ _ hm
  obtain ⟨a1, w1, f1⟩ := arg_sound (E := (⟨tys, gls, [], [], []⟩ : Env Bool)) (tyOK_of rfl tysB) (i := ⟨(.sl kT44), (.slice 45), 24, false⟩) rfl rfl (hval 1 42 v1 rfl rfl) h1
  have lt2 : ∀ x ∈ p2, x.block < W.heap.size := by obtain ⟨m, hm⟩ := h2; exact DataW.trod_lt m _ _ _ hm
  obtain ⟨a2, w2, f2⟩ := arg_sound (E := (⟨tys, gls, [], [], []⟩ : Env Bool)) (tyOK_of rfl tysB) (i := ⟨(.sl (.int .u8)), (.slice 5), 24, false⟩) rfl rfl (hval 2 22 v2 rfl rfl) h2
  clear hA0 hval0
  refine (walk a0 a1 a2 f0 f1 f2 W hL v0 v1 v2 w0 w1 w2).mono fun e W' ⟨he, bel⟩ => ?_
  subst he
  exact ⟨_, rfl, _, _, _, [], _, [], hW', trodAll_mk1 (shut_bool Tryd.underlying4 _), (trodAll_cons_mk (Below.trod laidOut (by kernel_rfl) (of_decide_eq_true (by kernel_rfl)) h0 bel lt0) (trodAll_cons_mk (Below.trod laidOut (by kernel_rfl) (of_decide_eq_true (by kernel_rfl)) h1 bel lt1) (trodAll_cons_mk (Below.trod laidOut (by kernel_rfl) (of_decide_eq_true (by kernel_rfl)) h2 bel lt2) trodAll_mk0))), rfl, bel.frame _, fun h => by cases h⟩

theorem over : Rows.scanPlaysRow.holds Tryd.pinned (OpenSpec.ofChange Rows.scanPlaysSpec) :=
  OpenClaim.holds_of_wide 5 Tryd.f5 rfl rfl rfl rfl rfl rfl rfl ⟨rfl, rfl, rfl, rfl, rfl⟩ rfl rfl rfl rfl rfl (by kernel_rfl) Tryd.func5 (by kernel_rfl)
    (of_decide_eq_true (by kernel_rfl)) (by unfold Func.isWrapper; first | (rw [if_pos (by decide +kernel)]; kernel_rfl) | (rw [if_neg (by decide +kernel)]; exact ⟨rfl, rfl⟩))
    (fun os started H enc _ => lifted os started H enc)

/-- THE STATEMENT. -/
theorem proved : Rows.ScanPlaysCardSaid :=
  Claim7.holds_tied_plain_at .later [] [.data] true (true, "15bca437e3be5659792ae6c172613e3c6a66ab8f605cda0ee3aff34261dd4878") false
    over (fun _ h => by cases h) (by kernel_rfl) (fun _ h => by cases h) scanPlays_row_tie rfl ⟨rfl, rfl⟩ (by kernel_rfl) rfl
    (fun f fn hf hfn => by
      obtain rfl : f = 5 := Option.some.inj ((show Tryd.prog.funcNamed "masthead/mastheadlaw25.ScanPlays" = some 5 by kernel_rfl).symm.trans hf) |>.symm
      obtain rfl : fn = Tryd.f5 := (Option.some.inj (Tryd.func5.symm.trans hfn)).symm
      exact ⟨by kernel_rfl, fun j t ht => by
        rw [Tryd.params5] at ht
        have hm : t ∈ [3, 42, 22] := by simpa using Array.mem_of_getElem? ht
        have hall : ([3, 42, 22].all fun u => !Tryd.prog.wantsStandIn u) = true := by kernel_rfl
        exact (show Tryd.prog.wantsStandIn t = false by simpa using List.all_eq_true.1 hall t hm)⟩)
    (by kernel_rfl)
#print axioms proved
end Go.Proofs.YtbjoemlcakfkmaaDoor.scanPlays
