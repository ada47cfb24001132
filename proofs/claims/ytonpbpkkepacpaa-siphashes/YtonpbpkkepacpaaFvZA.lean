/-
  A LAW's CALL.
-/
import Derived.Test.YtonpbpkkepacpaaFvZ
set_option linter.all false
namespace Go.Ev
open Go.RowKit (Below)

def kb (r : AV) (_ : List Blk) : Option Bool := match r with | .p .bool b => some b | _ => none

theorem law_calls {P : Program} {E : Env Bool} (T : TyOK P E) (fns : FnsOK P E) (hm : P.follows .mixedOrders = true) {f : FuncId} {fn : Func} (B : P.funcs[f]? = some fn)
    (lo : ∀ c, fn.body = some c → ∀ q ∈ loopsOf 0 c, ∀ L, E.lps.lookup q.1 = some L → LoopOK P E.gl q.2 L) {args : List AV} (h : fnK E fn [.pure] args [] kb = some true) (W : World) (vals : Array Value) (hg : GOK E.gl (X0 (fun b => b < W.heap.size) W))
    (hr : All2 (RS (X0 (fun b => b < W.heap.size) W)) args vals.toList) : Calls P f vals W fun e w' => e = .returned (.bool true) ∧ Below W.heap.size W w' := by
  obtain ⟨r, hp, h1, _, h2⟩ := fnK_calls T fns hm B lo h
  have hrr : r = .p .bool true := by
    unfold kb at h1
    split at h1
    · cases h1; rfl
    · cases h1
  subst hrr
  refine (h2 (X0 (fun b => b < W.heap.size) W) vals rfl ⟨fun id b hb => by simp [X0] at hb, fun id id' b c c' h1 => by simp [X0] at h1, fun b hb => ⟨hb, fun ⟨id, blk, h1, _⟩ => by simp [X0] at h1⟩⟩ hg hr).mono fun e w' ⟨u, he, Y, hY, _, hu, _, V, _⟩ => ?_
  rw [RS.bool] at hu
  subst hu; subst hY
  exact ⟨he, V.os, V.tape, V.output, V.size, fun k hk => V.keep k hk fun ⟨id, blk, h, _⟩ => by simp [X0] at h⟩

end Go.Ev
