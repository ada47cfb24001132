import Derived.Test.YtpblkfccnaapbaaDoorB3
import Derived.Conc.MuLone
import Derived.ChangeMaps5
import Derived.RowKit
import Derived.WideShapes
import Derived.ChangeShapes
import Derived.Below
import Derived.ProofKit
import Derived.OpenShut
import Derived.ShutString
import Derived.ChangeOld
import Derived.Laws.Externs
import Derived.FnData
import Derived.MakeChecks
set_option linter.all false
section
/-
  FUNCTIONS: from the evaluator's run of a body to what a call does.
-/
namespace Go.Ev
variable {A : Type}

theorem lookup_zipIdx {hp : List Blk} {id : Nat} {b : Blk} (h : (hp.zipIdx.map fun q => (q.2, q.1)).lookup id = some b) : hp[id]? = some b := by
  obtain ⟨l1, l2, h1, _⟩ := List.lookup_eq_some_iff.1 h
  have : (id, b) ∈ hp.zipIdx.map fun q => (q.2, q.1) := by rw [h1]; simp
  rw [List.mem_map] at this
  obtain ⟨q, hq, e⟩ := this
  rw [List.mem_zipIdx_iff_getElem?] at hq
  cases e; exact hq

theorem look_zip {hp : List Blk} {out : A} {id : Nat} {k : Blk → Option A} (h : look (hp.zipIdx.map fun q => (q.2, q.1)) id k = some out) : ∃ b, hp[id]? = some b ∧ k b = some out := by
  obtain ⟨b, hb, h⟩ := look_sound h
  exact ⟨b, lookup_zipIdx hb, h⟩

/-- What an address leads to. -/
theorem loadK_at {out : A} {hp : List Blk} {a : AV} {k : AV → Option A} (h : loadK (hp.zipIdx.map fun q => (q.2, q.1)) a k = some out) :
    ∃ y, k y = some out ∧ ∀ (X : Cx) (u : Value), X.hp = hp → Ok X → RS X a u → ∃ ad cs, u = .pointer (some ad) ∧ RA X y cs ∧ ∀ j v, cs[j]? = some v → X.w.cell? (ad.add j) = some v := by
  unfold loadK at h
  split at h
  · rename_i K x
    refine ⟨_, h, fun X u hX ok h1 => ?_⟩
    obtain ⟨ad, cs, h2, _, h3, h4⟩ := (RS.one (by simp) (by simp) (by simp) (by simp)).1 h1
    exact ⟨ad, cs, h2, h3, h4⟩
  · rename_i id path
    obtain ⟨B, hB, h⟩ := look_zip h
    split at h
    · rename_i t' K av
      obtain ⟨y, h, hs⟩ := getV_sound h
      refine ⟨_, h, fun X u hX ok h1 => ?_⟩
      rw [← hX] at hB
      obtain ⟨b, off, K', h2, h3, h4⟩ := (R1_ptr hB).1 ((RS.one (by simp) (by simp) (by simp) (by simp)).1 h1)
      obtain ⟨hfv, b', cs, h5, h6, h7⟩ := ok.blk _ _ hB
      rw [h2] at h5; cases h5
      obtain ⟨off', K'', h8, _, h9⟩ := hs hfv h7
      rw [h3] at h8; cases h8
      refine ⟨_, _, h4, h9, fun j u hj => ?_⟩
      rw [add_lit, cell_of_row _ _ _ _ _ _ h6]
      simpa using cut_get hj
    · rename_i t' K xs
      split at h
      · rename_i i0 r _
        obtain ⟨y0, hy0, h⟩ := Option.bind_eq_some_iff.1 h
        obtain ⟨K', y, h, hs⟩ := getK_sound h
        refine ⟨_, h, fun X u hX ok h1 => ?_⟩
        rw [← hX] at hB
        obtain ⟨b, i', r', off, K1, hp, hlt, h2, h3, h4⟩ := (R1_ptrR hB).1 ((RS.one (by simp) (by simp) (by simp) (by simp)).1 h1)
        simp only [List.cons.injEq, Hop.idx.injEq] at hp
        obtain ⟨rfl, rfl⟩ := hp
        obtain ⟨cur, cap, css, h5, h6, h7, _, h8, h9, h10⟩ := row_cells (ok.blk _ _ hB) h2
        obtain ⟨cs, h11, h12⟩ := elem_cells h8 h10 hy0
        obtain ⟨off', h13, h14⟩ := hs h11
        rw [h3] at h13; cases h13
        refine ⟨_, _, h4, (show RA X (.p K' y) _ from h14), fun j u hj => ?_⟩
        have := h12 _ _ (cut_get hj)
        rw [add_lit, add_lit] at this
        rw [add_lit, show i0 * K.size + off + j = 0 + i0 * K.size + (off + j) by omega]
        exact this
      · cases h
    · cases h
  · cases h

def tupV : List Value → Value
  | [v] => v
  | vs => .tuple vs.toArray

def resV (tmps : Array Value) : ResultVar → Sem Value
  | .tmp t => pure (tmps.getD t undef)
  | .cell a t => do loadVar t (← asAddr (tmps.getD a undef))

theorem results_one {P : Program} {fn : Func} {tmps : Array Value} {w : World} {us : List Value} (h : (fn.results.toList.mapM (resV tmps)).run P w = .ok us w) :
    (results fn tmps).run P w = .ok (tupV us) w := by
  have hg : ∀ g : ResultVar → Sem Value, (∀ x, g x = resV tmps x) → (fn.results.toList.mapM g).run P w = .ok us w := fun g hg => by rw [show g = resV tmps from funext hg]; exact h
  unfold results
  simp only [Array.mapM_eq_mapM_toList, Sem.run_bind, Sem.run_map]
  rw [hg _ (fun x => by cases x <;> rfl)]
  simp only [Result.andThen_ok, Sem.run_pure]
  match us with
  | [] => rfl
  | [t] => rfl
  | _ :: _ :: _ => rfl

theorem resultsK_sound {P : Program} {E : Env A} (T : TyOK P E) {out : A} {s : St} : ∀ {rs : List ResultVar} {k : List AV → Option A}, resultsK E s rs k = some out →
    ∃ vs, k vs = some out ∧ ∀ (X : Cx) (a : Act), Rel E.gl X s a → ∃ us, (rs.mapM (resV a.tmps)).run P X.w = .ok us X.w ∧ All2 (RS X) vs us
  | [], k, h => ⟨[], h, fun X a _ => ⟨[], by simp, .nil⟩⟩
  | .tmp t :: r, k, h => by
    simp only [resultsK] at h
    obtain ⟨vs, h, h2⟩ := resultsK_sound T h
    refine ⟨_, h, fun X a R => ?_⟩
    obtain ⟨us, h3, h4⟩ := h2 X a R
    refine ⟨a.tmps.getD t undef :: us, ?_, .cons (R.eval t) h4⟩
    simp only [List.mapM_cons, Sem.run_bind, resV, Sem.run_pure, Result.andThen_ok]
    rw [h3]; rfl
  | .cell t ty :: r, k, h => by
    simp only [resultsK] at h
    obtain ⟨y, h, hl⟩ := loadK_at h
    obtain ⟨i, hi, h⟩ := ti_sound h
    split at h
    · rename_i hf
      obtain ⟨vs, h, h2⟩ := resultsK_sound T h
      refine ⟨_, h, fun X a R => ?_⟩
      obtain ⟨us, h3, h4⟩ := h2 X a R
      obtain ⟨ad, cs, g1, g2, g3⟩ := hl X _ R.hp R.ok (R.eval t)
      obtain ⟨v, g4, g5⟩ := load_sound T hi hf g2 g3
      refine ⟨v :: us, ?_, .cons (RS.of0 g5 (fits_noTup hf)) h4⟩
      have g1 : a.tmps.getD t undef = .pointer (some ad) := g1
      simp only [List.mapM_cons, Sem.run_bind, resV, g1]
      simp only [asAddr, Sem.run_pure, Result.andThen_ok, g4]
      rw [h3]; rfl
    · cases h

/-- What is given, each by its kind of giving. -/
inductive Given (X : Cx) : List RMode → List AV → List AV → Prop where
  | nil : Given X [] [] []
  | pure {v : AV} {ms : List RMode} {vs rs : List AV} {K : Kind} {x : K.den} (h : ∀ {F : Nat → Prop} {cs : List Value}, (∀ b, X.F b → F b) → (∀ b, X.Held v.ids b → F b) → RA X v cs → RP F X.w K x cs ∧ v.agg = K.isAgg)
      (hn : v.isAny = false) (ht : v.isTup = false) (r : Given X ms vs rs) : Given X (.pure :: ms) (v :: vs) (.p K x :: rs)
  | own {v : AV} {ms : List RMode} {vs rs : List AV} (ht : v.isTup = false) (r : Given X ms vs rs) : Given X (.own :: ms) (v :: vs) (v :: rs)

theorem giveK_sound {out : A} {hp : List Blk} : ∀ {ms : List RMode} {vs : List AV} {k : List AV → Option A}, giveK (hp.zipIdx.map fun q => (q.2, q.1)) ms vs k = some out →
    ∃ rs, k rs = some out ∧ ∀ X : Cx, X.hp = hp → Ok X → Given X ms vs rs
  | [], [], k, h => ⟨[], h, fun _ _ _ => .nil⟩
  | .pure :: ms, v :: vs, k, h => by
    simp only [giveK] at h
    have h0 := h
    obtain ⟨K, x, h, _, h1⟩ := pureK_sound h
    obtain ⟨rs, h, h2⟩ := giveK_sound h
    refine ⟨_, h, fun X hX ok => .pure (fun {F cs} hF hH hr => h1 ok (fun id b hb => by rw [hX]; exact lookup_zipIdx hb) hF hH hr) ?_ ?_ (h2 X hX ok)⟩
    · cases v <;> first | rfl | (simp [pureK] at h0)
    · cases v <;> first | rfl | (simp [pureK] at h0)
  | .own :: ms, v :: vs, k, h => by
    simp only [giveK] at h
    split at h
    · cases h
    · rename_i ht
      obtain ⟨rs, h, h2⟩ := giveK_sound h
      exact ⟨_, h, fun X hX ok => .own (by simpa using ht) (h2 X hX ok)⟩
  | [], _ :: _, k, h => by cases h
  | .pure :: _, [], k, h => by cases h
  | .own :: _, [], k, h => by cases h

theorem given_sound {X Z : Cx} {f : Nat → Option Nat} (EM : Emb X Z f true) {G : List Nat} (hF : Z.F = fun b => X.F b ∨ X.Held G b) : ∀ {ms : List RMode} {vs rs : List AV}, Given X ms vs rs → (∀ x ∈ viewIds ms vs, x ∈ G) → ∀ {us : List Value}, All2 (RS X) vs us →
    All2 (RS0 Z) (rs.map fun v => v.ren1 f) us
  | _, _, _, .nil, _, us, h => by cases h; exact .nil
  | _, _, _, @Given.pure _ v ms vs rs K x h hn ht r, hG, us, hr => by
    cases hr with
    | @cons _ u _ us h1 hr =>
      have htup : ∀ ws, v ≠ AV.tup ws := fun ws e => by rw [e] at ht; cases ht
      refine .cons ?_ (given_sound EM hF r (fun x hx => hG x (by simp only [viewIds, List.mem_append]; exact .inr hx)) hr)
      rcases h1.to0 htup with h3 | ⟨cs, h3, h4⟩
      · rw [hn] at h3; cases h3
      · obtain ⟨g1, g2⟩ := h (F := Z.F) (fun b hb => by rw [hF]; exact .inl hb) (fun b hb => by
          rw [hF]; right
          obtain ⟨id, hid, r⟩ := hb
          exact ⟨id, hG id (by simp only [viewIds, List.mem_append]; exact .inl hid), r⟩) h3
        refine .inr ⟨cs, ?_, ?_⟩
        · show RP Z.F Z.w _ _ _
          rw [EM.w]; exact g1
        · rw [g2] at h4; exact h4
  | _, _, _, @Given.own _ v ms vs rs ht r, hG, us, hr => by
    cases hr with
    | @cons _ u _ us h1 hr =>
      have htup : ∀ ws, v ≠ AV.tup ws := fun ws e => by rw [e] at ht; cases ht
      exact .cons (RS0.emb EM (fun _ => rfl) (h1.to0 htup)) (given_sound EM hF r (fun x hx => hG x (by simpa [viewIds] using hx)) hr)

theorem Given.noTup {X : Cx} : ∀ {ms : List RMode} {vs rs : List AV}, Given X ms vs rs → ∀ v ∈ rs, v.isTup = false
  | _, _, _, .nil, v, h => by cases h
  | _, _, _, .pure _ _ _ r, v, h => by rcases List.mem_cons.1 h with rfl | h; rfl; exact r.noTup v h
  | _, _, _, .own ht r, v, h => by rcases List.mem_cons.1 h with rfl | h; exact ht; exact r.noTup v h

theorem ren1_noTup {v : AV} {f : Nat → Option Nat} (h : v.isTup = false) : ∀ ws, v.ren1 f ≠ .tup ws := by
  intro ws e
  cases v <;> first | (cases h; done) | (simp only [AV.ren1] at e; split at e <;> cases e; done) | (cases e; done)

theorem endK_sound {P : Program} {E : Env A} (T : TyOK P E) {fn : Func} {rm : List RMode} {k : AV → List Blk → Option A} {out : A} {x : Ex} {s' : St} (h : endK E fn rm k x s' = some out) :
    ∃ (r : AV) (hp : List Blk) (vs rs : List AV) (l : List Nat), k r hp = some out ∧ (x.out = .normal ∨ x.out = .ret) ∧ (∀ (X : Cx) (a : Act), Rel E.gl X s' a → ∃ us, (results fn a.tmps).run P X.w = .ok (tupV us) X.w ∧ All2 (RS X) vs us) ∧ (∀ X : Cx, X.hp = s'.hp → Ok X → Given X rm vs rs) ∧
        l.Nodup ∧ (∀ y ∈ viewIds rm vs, y ∉ l) ∧ (l.take s'.m == List.range s'.m) = true ∧ r = tupOf (rs.map fun v => v.ren1 (pos l)) ∧ hp = l.map fun id => (s'.hp.getD id .gone).ren (pos l) := by
  have main : ∀ (h : (resultsK E s' fn.results.toList fun vs => giveK (s'.hp.zipIdx.map fun q => (q.2, q.1)) rm vs fun rs =>
      let l := closure (blkIds s'.hp) 1000 (List.range s'.m ++ rs.flatMap AV.ids) []
      bif disjointB (viewIds rm vs) l && (l.take s'.m == List.range s'.m) then k (tupOf (rs.map fun v => v.ren1 (pos l))) (l.map fun id => (s'.hp.getD id .gone).ren (pos l)) else none) = some out),
      (x.out = .normal ∨ x.out = .ret) → ∃ (r : AV) (hp : List Blk) (vs rs : List AV) (l : List Nat), k r hp = some out ∧ (x.out = .normal ∨ x.out = .ret) ∧ (∀ (X : Cx) (a : Act), Rel E.gl X s' a → ∃ us, (results fn a.tmps).run P X.w = .ok (tupV us) X.w ∧ All2 (RS X) vs us) ∧ (∀ X : Cx, X.hp = s'.hp → Ok X → Given X rm vs rs) ∧
        l.Nodup ∧ (∀ y ∈ viewIds rm vs, y ∉ l) ∧ (l.take s'.m == List.range s'.m) = true ∧ r = tupOf (rs.map fun v => v.ren1 (pos l)) ∧ hp = l.map fun id => (s'.hp.getD id .gone).ren (pos l) := by
    intro h hx
    obtain ⟨vs, h, hts⟩ := resultsK_sound T h
    obtain ⟨rs, h, hg⟩ := giveK_sound h
    have hnd : (closure (blkIds s'.hp) 1000 (List.range s'.m ++ rs.flatMap AV.ids) []).Nodup := closure_nodup _ _ _ _ (by simp)
    simp only at h
    generalize closure (blkIds s'.hp) 1000 (List.range s'.m ++ rs.flatMap AV.ids) [] = l at h hnd
    cases hd : disjointB (viewIds rm vs) l && (l.take s'.m == List.range s'.m) with
    | false => rw [hd] at h; cases h
    | true =>
      rw [hd] at h
      rw [Bool.and_eq_true] at hd
      exact ⟨_, _, vs, rs, l, h, hx, fun X a R => (hts X a R).imp fun us h => ⟨results_one h.1, h.2⟩, hg, hnd, disjointB_spec hd.1, hd.2, rfl, rfl⟩
  cases x with
  | normal => exact main h (.inl rfl)
  | ret => exact main h (.inr rfl)
  | exit j => cases h

/-- The function of a table, with code, and what it is called with. -/
structure Body (P : Program) (f : FuncId) (fn : Func) : Prop where
  get : P.funcs[f]? = some fn
  name : (fn.name == "runtime.NumGoroutine") = false

theorem fnK_calls {P : Program} {E : Env A} (T : TyOK P E) (fns : FnsOK P E) (hm : P.follows .mixedOrders = true) {f : FuncId} {fn : Func} (B : P.funcs[f]? = some fn) (lo : ∀ c, fn.body = some c → ∀ q ∈ loopsOf 0 c, ∀ L, E.lps.lookup q.1 = some L → LoopOK P E.gl q.2 L) {rm : List RMode} {args : List AV} {hp0 : List Blk} {k : AV → List Blk → Option A} {out : A}
    (h : fnK E fn rm args hp0 k = some out) : ∃ r hp, k r hp = some out ∧ (fn.body.isSome = true) ∧ ∀ (X : Cx) (vals : Array Value), X.hp = hp0 → Ok X → GOK E.gl X → All2 (RS X) args vals.toList →
      Calls P f vals X.w fun e w' => ∃ u, e = .returned u ∧ ∃ Y : Cx, Y.w = w' ∧ Y.hp = hp ∧ RS Y r u ∧ Ok Y ∧ WEvo X Y ∧ PEvo hp0.length X Y := by
  unfold fnK at h
  split at h
  · rename_i c hc
    obtain ⟨x, s', h, hsm, hsem⟩ := codeK_sound T fns hm (lo c hc) h
    obtain ⟨r, hp, vs, rs, l, hk, hx, hts, hgiven, hnd, hdis, hpin, rfl, rfl⟩ := endK_sound T h
    refine ⟨_, _, hk, by rw [hc]; rfl, fun X vals hX okX hglo hargs => ?_⟩
    have hlen : args.length = vals.size := by simpa using hargs.length
    -- the start
    have R0 : Rel E.gl X { tm := args ++ List.replicate (fn.ntmps - args.length) .any, hp := hp0, m := hp0.length } { tmps := vals ++ Array.replicate (fn.ntmps - vals.size) undef, defers := [] } := by
      refine ⟨hglo, rfl, by simp [hlen], fun i av hi => ?_, hX, okX⟩
      simp only at hi
      rw [List.getElem?_append] at hi
      split at hi
      · rename_i hlt
        obtain ⟨v, h1, h2⟩ := hargs.get hi
        refine ⟨v, ?_, h2⟩
        simp only
        rw [Array.getElem?_append_left (by omega)]
        rw [← Array.getElem?_toList]; exact h1
      · rename_i hlt
        rw [List.getElem?_replicate] at hi
        split at hi
        · rename_i h2
          cases hi
          refine ⟨undef, ?_, RS.any _⟩
          simp only
          rw [Array.getElem?_append_right (by omega), Array.getElem?_replicate, if_pos (by omega)]
        · cases hi
    refine calls_of_wp B hc (hsem X _ (bodyPost P fn _) R0 fun Y a' W V R => ?_)
    -- the end
    obtain ⟨Z, z1, z2, z3, z4, z5, z6⟩ := renumber R.hp R.ok hnd hdis
    obtain ⟨us, hrun, hus⟩ := hts Y a' R
    have G := hgiven Y R.hp R.ok
    have hrs := given_sound z6 z3 G (fun _ h => h) hus
    have hnt := G.noTup
    have hpin : (l.take hp0.length == List.range hp0.length) = true := by simpa only [hsm] using hpin
    have V : PEvo hp0.length X Y := V
    have fin : bodyPost P fn (fun e w' => ∃ u, e = .returned u ∧ ∃ Y : Cx, Y.w = w' ∧ Y.hp = (l.map fun id => (s'.hp.getD id .gone).ren (pos l)) ∧ RS Y (tupOf (rs.map fun v => v.ren1 (pos l))) u ∧ Ok Y ∧ WEvo X Y ∧ PEvo hp0.length X Y) .normal a' Y.w := by
      refine ⟨R.defers, _, hrun, _, rfl, Z, z1, z2, ?_, z4, W.trans z5, V.trans (z6.pevo hnd hpin)⟩
      clear hus hrun
      cases hrs' : rs with
      | nil => rw [hrs'] at hrs; cases hrs; exact ⟨#[], rfl, .nil⟩
      | cons v rs1 =>
        rw [hrs'] at hrs
        cases rs1 with
        | nil =>
          cases hrs with
          | cons h1 h2 =>
            cases h2
            exact RS.of0 h1 (ren1_noTup (hnt v (by rw [hrs']; simp)))
        | cons v2 rs2 =>
          cases hrs with
          | cons h1 h2 =>
            cases h2 with
            | cons h2 h3 =>
              exact ⟨_, rfl, by simpa using All2.cons h1 (.cons h2 h3)⟩
    rcases hx with hx | hx <;> rw [hx] <;> exact fin
  · cases h

theorem fnK_sound {P : Program} {E : Env A} (T : TyOK P E) (fns : FnsOK P E) (hm : P.follows .mixedOrders = true) {f : FuncId} {fn : Func} (B : Body P f fn) (lo : ∀ c, fn.body = some c → ∀ q ∈ loopsOf 0 c, ∀ L, E.lps.lookup q.1 = some L → LoopOK P E.gl q.2 L) {rm : List RMode} {args : List AV} {hp0 : List Blk} {k : AV → List Blk → Option A} {out : A}
    (h : fnK E fn rm args hp0 k = some out) : ∃ r hp, k r hp = some out ∧ FnSem P E.gl f args hp0 r hp := by
  obtain ⟨r, hp, h1, hb, h2⟩ := fnK_calls T fns hm B.get lo h
  refine ⟨r, hp, h1, fun X vals hX ok hglo hargs => ?_⟩
  obtain ⟨c, hc⟩ := Option.isSome_iff_exists.1 hb
  exact ⟨_, X.w, MuLone.run_callFunc_enter B.get B.name hc vals X.w, .inr ⟨rfl, h2 X vals hX ok hglo hargs⟩⟩

/-- An entry that runs a body: its arguments are data. -/
theorem FnOK.of {P : Program} {E : Env A} (T : TyOK P E) (fns : FnsOK P E) (hm : P.follows .mixedOrders = true) {f : FuncId} {fn : Func} (B : Body P f fn) (lo : ∀ c, fn.body = some c → ∀ q ∈ loopsOf 0 c, ∀ L, E.lps.lookup q.1 = some L → LoopOK P E.gl q.2 L) {rm : List RMode} {g : List AV → (AV → List Blk → Option A) → Option A}
    (h : ∀ args k out, g args k = some out → fnK E fn rm args [] k = some out) : FnOK P E.gl f (pureE g) := fun args hp0 k out hr => by
  cases hp0 with
  | nil => exact fnK_sound T fns hm B lo (h args k out hr)
  | cons b r => cases hr

/-- An entry that runs a body, handed blocks of a form. -/
theorem FnOK.ofOwn {P : Program} {E : Env A} (T : TyOK P E) (fns : FnsOK P E) (hm : P.follows .mixedOrders = true) {f : FuncId} {fn : Func} (B : Body P f fn) (lo : ∀ c, fn.body = some c → ∀ q ∈ loopsOf 0 c, ∀ L, E.lps.lookup q.1 = some L → LoopOK P E.gl q.2 L) {rm : List RMode} {own : List Bool} {S : Shape} {g : S.den → (AV → List Blk → Option A) → Option A}
    (h : ∀ d k, fnK E fn rm (shFill S.tm d.1) (bshFill S.hp d.2) k = g d k) : FnOK P E.gl f (ownE own S g) := fun args hp0 k out hr => by
  simp only [ownE] at hr
  split at hr
  · rename_i x y hx hy
    rw [← h] at hr
    rw [shRead_fill hx, bshRead_fill hy]
    exact fnK_sound T fns hm B lo hr
  · cases hr


-- ------------------------------------------------------------ for what is printed

theorem args0_sound {out : A} {args : List AV} {g : Option A} (h : args0 args g = some out) : args = [] ∧ g = some out := by
  unfold args0 at h; split at h
  · exact ⟨rfl, h⟩
  · cases h
theorem args1_sound {out : A} {args : List AV} {K0 : Kind} {g : K0.den → Option A} (h : args1 args K0 g = some out) : ∃ a0, args = [.p K0 a0] ∧ g a0 = some out := by
  unfold args1 at h; split at h
  · obtain ⟨a0, e0, h0⟩ := argD_sound h
    exact ⟨a0, by rw [e0], h0⟩
  · cases h
theorem args2_sound {out : A} {args : List AV} {K0 K1 : Kind} {g : K0.den → K1.den → Option A} (h : args2 args K0 K1 g = some out) : ∃ a0 a1, args = [.p K0 a0, .p K1 a1] ∧ g a0 a1 = some out := by
  unfold args2 at h; split at h
  · obtain ⟨a0, e0, h0⟩ := argD_sound h
    obtain ⟨a1, e1, h1⟩ := argD_sound h0
    exact ⟨a0, a1, by rw [e0, e1], h1⟩
  · cases h
theorem args3_sound {out : A} {args : List AV} {K0 K1 K2 : Kind} {g : K0.den → K1.den → K2.den → Option A} (h : args3 args K0 K1 K2 g = some out) : ∃ a0 a1 a2, args = [.p K0 a0, .p K1 a1, .p K2 a2] ∧ g a0 a1 a2 = some out := by
  unfold args3 at h; split at h
  · obtain ⟨a0, e0, h0⟩ := argD_sound h
    obtain ⟨a1, e1, h1⟩ := argD_sound h0
    obtain ⟨a2, e2, h2⟩ := argD_sound h1
    exact ⟨a0, a1, a2, by rw [e0, e1, e2], h2⟩
  · cases h
theorem args4_sound {out : A} {args : List AV} {K0 K1 K2 K3 : Kind} {g : K0.den → K1.den → K2.den → K3.den → Option A} (h : args4 args K0 K1 K2 K3 g = some out) : ∃ a0 a1 a2 a3, args = [.p K0 a0, .p K1 a1, .p K2 a2, .p K3 a3] ∧ g a0 a1 a2 a3 = some out := by
  unfold args4 at h; split at h
  · obtain ⟨a0, e0, h0⟩ := argD_sound h
    obtain ⟨a1, e1, h1⟩ := argD_sound h0
    obtain ⟨a2, e2, h2⟩ := argD_sound h1
    obtain ⟨a3, e3, h3⟩ := argD_sound h2
    exact ⟨a0, a1, a2, a3, by rw [e0, e1, e2, e3], h3⟩
  · cases h

theorem tyOK_of {P : Program} {E : Env A} {tys : List (TypeId × TI)} (he : E.ty = tys) (h : tys.all (tyB P tys) = true) : TyOK P E := fun t i hi => by
  subst he
  rw [List.all_eq_true] at h
  obtain ⟨l1, l2, h1, _⟩ := List.lookup_eq_some_iff.1 hi
  exact h (t, i) (by rw [h1]; simp)

def AllOK (P : Program) (gl : GL) (l : List (FuncId × Entry A)) : Prop := ∀ f en, l.lookup f = some en → FnOK P gl f en
theorem AllOK.nil {P : Program} {gl : GL} : AllOK (A := A) P gl [] := fun _ _ h => nomatch h
theorem AllOK.cons {P : Program} {gl : GL} {f : FuncId} {en : Entry A} {l : List (FuncId × Entry A)} (h : FnOK P gl f en) (r : AllOK P gl l) : AllOK P gl ((f, en) :: l) := fun g e hg => by
  rw [List.lookup_cons] at hg
  split at hg
  · rename_i hb; cases hg; rw [eq_of_beq hb]; exact h
  · exact r g e hg
theorem AllOK.env {P : Program} {gl : GL} {E : Env A} {l : List (FuncId × Entry A)} (he : E.fns = l) (hg : E.gl = gl) (h : AllOK P gl l) : FnsOK P E := fun f en hf => by rw [hg]; exact h f en (by rw [← he]; exact hf)

theorem lo_nil {P : Program} {E : Env A} : ∀ q ∈ ([] : List (Nat × Code)), ∀ L, E.lps.lookup q.1 = some L → LoopOK P E.gl q.2 L := fun _ h => nomatch h
theorem lo_cons {P : Program} {E : Env A} {j : Nat} {c : Code} {L0 : Loop A} {r : List (Nat × Code)} (hl : E.lps.lookup j = some L0) (h : LoopOK P E.gl c L0) (hr : ∀ q ∈ r, ∀ L, E.lps.lookup q.1 = some L → LoopOK P E.gl q.2 L) :
    ∀ q ∈ (j, c) :: r, ∀ L, E.lps.lookup q.1 = some L → LoopOK P E.gl q.2 L := fun q hq L hL => by
  rcases List.mem_cons.1 hq with rfl | hq
  · rw [hl] at hL; cases hL; exact h
  · exact hr q hq L hL
theorem lo_of {P : Program} {E : Env A} {j : Nat} {c : Code} {r : List (Nat × Code)} (he : loopsOf j c = r) (hr : ∀ q ∈ r, ∀ L, E.lps.lookup q.1 = some L → LoopOK P E.gl q.2 L) : ∀ q ∈ loopsOf j c, ∀ L, E.lps.lookup q.1 = some L → LoopOK P E.gl q.2 L := by rw [he]; exact hr
theorem lo_body {P : Program} {E : Env A} {fn : Func} {c0 : Code} (hb : fn.body = some c0) (h : ∀ q ∈ loopsOf 0 c0, ∀ L, E.lps.lookup q.1 = some L → LoopOK P E.gl q.2 L) : ∀ c, fn.body = some c → ∀ q ∈ loopsOf 0 c, ∀ L, E.lps.lookup q.1 = some L → LoopOK P E.gl q.2 L := fun c hc => by
  rw [hb] at hc; cases hc; exact h

end Go.Ev
end

section
/-
  ARGUMENTS AS A ROW READS THEM: data of our kinds.
-/
namespace Go.Ev
variable {A : Type}

def Kind.noOpq : Kind → Bool
  | .opq => false
  | .pair a b => a.noOpq && b.noOpq
  | .arr _ e => e.noOpq
  | .sl e => e.noOpq
  | _ => true

/-- What a row's reading of an argument tells of it: numbers fit, lengths are modest. -/
def WF : (K : Kind) → K.den → Prop
  | .int k => fun (n : Int) => k.min ≤ n ∧ n ≤ k.max
  | .bool => fun _ => True
  | .str => fun (s : ByteArray) => s.size ≤ maxLen
  | .opq => fun _ => True
  | .unit => fun _ => True
  | .pair a b => fun (x : a.den × b.den) => WF a x.1 ∧ WF b x.2
  | .arr n e => fun (l : List e.den) => l.length = n ∧ ∀ x ∈ l, WF e x
  | .sl e => fun (l : List e.den) => l.length ≤ maxLen ∧ ∀ x ∈ l, WF e x

theorem mapM_some {α β : Type} {f : α → Option β} : ∀ {l : List α} {ys : List β}, l.mapM f = some ys → ∀ x ∈ l, ∃ y, f x = some y
  | [], _, _, x, hx => by cases hx
  | a :: l, ys, h, x, hx => by
    simp only [List.mapM_cons, Option.bind_eq_bind, Option.bind_eq_some_iff] at h
    obtain ⟨y, hy, zs, hz, _⟩ := h
    rcases List.mem_cons.1 hx with rfl | hx
    · exact ⟨y, hy⟩
    · exact mapM_some hz x hx

theorem mapM_len {α β : Type} {f : α → Option β} : ∀ {l : List α} {ys : List β}, l.mapM f = some ys → ys.length = l.length ∧ ∀ (i : Nat) (x : α), l[i]? = some x → ∃ y, ys[i]? = some y ∧ f x = some y
  | [], ys, h => by simp at h; subst h; simp
  | a :: l, ys, h => by
    simp only [List.mapM_cons, Option.bind_eq_bind, Option.bind_eq_some_iff] at h
    obtain ⟨y, hy, zs, hz, h⟩ := h
    simp at h; subst h
    obtain ⟨h1, h2⟩ := mapM_len hz
    refine ⟨by simp [h1], fun i x hi => ?_⟩
    cases i with
    | zero => simp at hi; subst hi; exact ⟨y, by simp, hy⟩
    | succ i => simp at hi; simpa using h2 i x hi

theorem all2_choose {α β γ : Type} {R : α → β → Prop} {g : γ → β} : ∀ {is : List γ}, (∀ i ∈ is, ∃ x, R x (g i)) → ∃ xs, All2 R xs (is.map g)
  | [], _ => ⟨[], .nil⟩
  | i :: is, h => by
    obtain ⟨x, hx⟩ := h i (by simp)
    obtain ⟨xs, hxs⟩ := all2_choose (is := is) fun i hi => h i (by simp [hi])
    exact ⟨x :: xs, .cons hx hxs⟩

theorem All2.left {α β : Type} {R : α → β → Prop} {xs : List α} {ys : List β} (h : All2 R xs ys) : ∀ x ∈ xs, ∃ y ∈ ys, R x y := fun x hx => by
  obtain ⟨i, hi⟩ := List.mem_iff_getElem?.1 hx
  obtain ⟨y, hy, hr⟩ := h.get hi
  exact ⟨y, List.mem_of_getElem? hy, hr⟩

theorem flatten_get {css : List (List Value)} {m : Nat} (h : ∀ c ∈ css, c.length = m) : ∀ {j : Nat} {v : Value}, css.flatten[j]? = some v → ∃ i c o, css[i]? = some c ∧ o < m ∧ j = i * m + o ∧ c[o]? = some v := by
  induction css with
  | nil => intro j v h; simp at h
  | cons c css ih =>
    intro j v hj
    have hc := h c (by simp)
    rw [List.flatten_cons, List.getElem?_append] at hj
    split at hj
    · rename_i hlt
      exact ⟨0, c, j, by simp, by omega, by simp, hj⟩
    · rename_i hge
      obtain ⟨i, d, o, h1, h2, h3, h4⟩ := ih (fun c hc => h c (by simp [hc])) hj
      exact ⟨i + 1, d, o, by simpa using h1, h2, by rw [Nat.add_mul]; omega, h4⟩

theorem cell_lt {w : World} {a : Addr} {v : Value} (h : w.cell? a = some v) : a.block < w.heap.size := by
  apply Nat.lt_of_not_le
  intro hle
  unfold World.cell? at h
  rw [Array.getElem?_eq_none hle] at h
  cases h

section
variable {P : Program} {E : Env A} (T : TyOK P E) {H : Type} {enc : TypeId × Value → H} {w : World} {base : Nat} {sp : Nat → Bool} {held : Bool}
include T

theorem trod_RP : ∀ (fuel : Nat) (t : TypeId) (i : TI) (cs : List Value) (z : DataW H × List MemPlace), E.ty.lookup t = some i → i.K.noOpq = true → DataW.trod enc P w base sp held fuel t cs = some z →
    ∃ x : i.K.den, RP (fun b => b < w.heap.size) w i.K x cs ∧ WF i.K x
  | 0, _, _, _, _, _, _, h => by simp [DataW.trod] at h
  | fuel + 1, t, i, cs, z, hi, hq, h => by
    obtain ⟨ds, hu, hd⟩ := T.desc hi
    have hcell := T.cellsOf hi
    obtain ⟨K, td, by', cm⟩ := i
    simp only at hd hq hcell ⊢
    unfold DataW.trod at h
    rw [hu] at h
    cases ds with
    | bool =>
      cases td <;> cases K <;> simp at hd
      simp only at h
      split at h <;> try (cases h; done)
      all_goals first | (rename_i heq; cases heq; done) | skip
      rename_i b heq
      exact ⟨b, rfl, trivial⟩
    | int k =>
      cases td <;> cases K <;> simp at hd
      subst hd
      simp only at h
      split at h <;> try (cases h; done)
      all_goals first | (rename_i heq; cases heq; done) | skip
      rename_i heq
      cases heq
      split at h
      · rename_i hw
        obtain ⟨rfl, hw⟩ := hw
        simp only [Lit.wf, Bool.and_eq_true, decide_eq_true_eq] at hw
        exact ⟨_, rfl, hw⟩
      · cases h
    | string =>
      cases td <;> cases K <;> simp at hd
      simp only at h
      split at h <;> try (cases h; done)
      all_goals first | (rename_i heq; cases heq; done) | skip
      split at h
      · rename_i s heq hw
        exact ⟨s, rfl, hw⟩
      · cases h
    | slice e =>
      cases td <;> cases K <;> simp at hd
      rename_i e' Ke
      obtain ⟨rfl, hd⟩ := hd
      obtain ⟨j, hj, hjK, hpos⟩ : ∃ j, E.ty.lookup e = some j ∧ j.K = Ke ∧ 0 < Ke.size := by
        cases h : E.ty.lookup e with
        | none => rw [h] at hd; simp at hd
        | some j => rw [h] at hd; simp at hd; exact ⟨j, rfl, hd.1.1, hd.1.2⟩
      subst hjK
      simp only at h
      split at h <;> try (cases h; done)
      all_goals first | (rename_i heq; cases heq; done) | skip
      · exact ⟨[], ⟨none, 0, rfl, Nat.le_refl _, fun h => absurd h (Nat.lt_irrefl _)⟩, by simp, fun x hx => by cases hx⟩
      · rename_i a len cap heq
        cases heq
        split at h
        · rename_i hc
          obtain ⟨_, hlc, hcm⟩ := hc
          obtain ⟨elems, he, h⟩ := Option.bind_eq_some_iff.1 h
          rw [T.cellsOf hj] at he
          -- the elements
          let g : Nat → List Value := fun i => ((w.cells? base (a.add (i * j.K.size)) j.K.size).getD [])
          have each : ∀ i ∈ List.range len, ∃ x, (RP (fun b => b < w.heap.size) w j.K x (g i) ∧ WF j.K x) ∧ w.cells? base (a.add (i * j.K.size)) j.K.size = some (g i) := fun i hi => by
            obtain ⟨y, hy⟩ := mapM_some he i hi
            obtain ⟨cs, hcs, hy⟩ := Option.bind_eq_some_iff.1 hy
            have hgi : g i = cs := by simp [g, hcs]
            obtain ⟨x, h1, h2⟩ := trod_RP fuel e j cs y hj hq hy
            exact ⟨x, by rw [hgi]; exact ⟨h1, h2⟩, by rw [hgi]; exact hcs⟩
          obtain ⟨xs, hxs⟩ := all2_choose (R := fun x c => RP (fun b => b < w.heap.size) w j.K x c ∧ WF j.K x) (g := g) fun i hi => by obtain ⟨x, h, _⟩ := each i hi; exact ⟨x, h⟩
          have hlen : xs.length = len := by rw [hxs.length]; simp
          have hrp : All2 (RP (fun b => b < w.heap.size) w j.K) xs ((List.range len).map g) := hxs.imp fun _ _ _ _ h => h.1
          have cell : ∀ i o v, i < len → (g i)[o]? = some v → w.cell? (a.add (i * j.K.size + o)) = some v := fun i o v hi ho => by
            obtain ⟨x, _, hcs⟩ := each i (by simpa using hi)
            unfold World.cells? at hcs
            split at hcs
            · obtain ⟨h1, h2⟩ := mapM_len hcs
              have hol : o < j.K.size := by have := (List.getElem?_eq_some_iff.1 ho).1; rw [h1] at this; simpa using this
              obtain ⟨y, hy, hv⟩ := h2 o o (by simp [hol])
              rw [ho] at hy; cases hy
              rw [add_add] at hv; exact hv
            · cases hcs
          refine ⟨xs, ⟨some a, cap, by rw [hlen], by rw [hlen]; exact hlc, fun hp => ⟨a, (List.range len).map g, rfl, ?_, hrp, fun q v hv => ?_⟩⟩, by rw [hlen]; omega, fun x hx => by obtain ⟨c, _, h⟩ := hxs.left x hx; exact h.2⟩
          · -- a cell of the first
            rw [hlen] at hp
            obtain ⟨x, ⟨h1, _⟩, hcs⟩ := each 0 (by simpa using hp)
            have hl := RP.length h1
            have := cell 0 0 ((g 0)[0]'(by omega)) hp (List.getElem?_eq_getElem _)
            have := cell_lt this
            rwa [add_block] at this
          · obtain ⟨i, c, o, h1, h2, rfl, h4⟩ := flatten_get hrp.lens hv
            rw [List.getElem?_map, Option.map_eq_some_iff] at h1
            obtain ⟨i', h1, rfl⟩ := h1
            have hi := (List.getElem?_eq_some_iff.1 h1).1
            have : i' = i := by rw [List.getElem?_range (by simpa using hi)] at h1; exact (Option.some.inj h1).symm
            subst this
            exact cell i' o v (by simpa using hi) h4
        · cases h
    | array n e =>
      cases td <;> cases K <;> simp at hd
      rename_i n' e' n'' Ke
      obtain ⟨⟨⟨rfl, rfl⟩, rfl⟩, hd⟩ := hd
      obtain ⟨j, hj, hjK⟩ : ∃ j, E.ty.lookup e = some j ∧ j.K = Ke := by
        cases h : E.ty.lookup e with
        | none => rw [h] at hd; simp at hd
        | some j => rw [h] at hd; simp at hd; exact ⟨j, rfl, hd.1⟩
      subst hjK
      simp only at h
      split at h
      · rename_i hl
        rw [hcell] at hl
        obtain ⟨xs, hxs, _⟩ := Option.map_eq_some_iff.1 h
        rw [T.cellsOf hj] at hxs
        obtain ⟨ys, hys⟩ := all2_choose (R := fun x c => RP (fun b => b < w.heap.size) w j.K x c ∧ WF j.K x) (g := fun i => cut cs (i * j.K.size) j.K.size) (is := List.range n) fun i hi => by
          obtain ⟨y, hy⟩ := mapM_some hxs i hi
          exact trod_RP fuel e j _ y hj hq hy
        have hlen : ys.length = n := by rw [hys.length]; simp
        refine ⟨ys, ⟨hlen, _, ?_, hys.imp fun _ _ _ _ h => h.1⟩, hlen, fun x hx => by obtain ⟨c, _, h⟩ := hys.left x hx; exact h.2⟩
        exact chunks n j.K.size cs hl
      · cases h
    | struct fs =>
      cases td with
      | struct ts =>
        have hd : fieldsB E.ty fs.toList ts K 0 = true := hd
        simp only at h
        split at h
        · rename_i hl
          rw [hcell] at hl
          obtain ⟨xs, hxs, _⟩ := Option.map_eq_some_iff.1 h
          have gen : ∀ (fs : List Field) (ts : List TypeId) (K : Kind) (off : Nat), fieldsB E.ty fs ts K off = true → K.noOpq = true → (∀ f ∈ fs, ∃ y, DataW.trod enc P w base sp held fuel f.type ((cs.drop f.offset).take (P.cellsOf f.type)) = some y) →
              ∃ x : K.den, RP (fun b => b < w.heap.size) w K x ((cs.drop off).take K.size) ∧ WF K x := by
            intro fs
            induction fs with
            | nil =>
              intro ts K off hb _ _
              cases ts <;> cases K <;> simp [fieldsB] at hb
              exact ⟨(), by simp [Kind.size, RP], trivial⟩
            | cons f fs ih =>
              intro ts K off hb hq hall
              cases ts with
              | nil => simp [fieldsB] at hb
              | cons t ts =>
                cases K with
                | pair a b =>
                  simp only [fieldsB, Bool.and_eq_true, beq_iff_eq, decide_eq_true_eq] at hb
                  obtain ⟨⟨⟨⟨rfl, hoff⟩, hpos⟩, hl⟩, hb⟩ := hb
                  simp only [Kind.noOpq, Bool.and_eq_true] at hq
                  cases hf : E.ty.lookup f.type with
                  | none => rw [hf] at hl; cases hl
                  | some j =>
                    rw [hf] at hl
                    have hjK : j.K = a := by simpa using hl
                    subst hjK
                    obtain ⟨y, hy⟩ := hall f (by simp)
                    rw [hoff, T.cellsOf hf] at hy
                    obtain ⟨x1, h1, h2⟩ := trod_RP fuel f.type j _ y hf hq.1 hy
                    obtain ⟨x2, h3, h4⟩ := ih ts b (off + j.K.size) hb hq.2 fun f hf => hall f (by simp [hf])
                    refine ⟨(x1, x2), ⟨_, _, ?_, h1, h3⟩, h2, h4⟩
                    rw [Kind.size, List.take_add, List.drop_drop]
                | _ => simp [fieldsB] at hb
          obtain ⟨x, h1, h2⟩ := gen fs.toList ts K 0 hd hq fun f hf => mapM_some hxs f hf
          refine ⟨x, ?_, h2⟩
          rw [List.drop_zero, List.take_of_length_le (by omega)] at h1
          exact h1
        · cases h
      | prim => cases K <;> simp at hd
      | slice _ => cases K <;> simp at hd
      | array _ _ => cases K <;> simp at hd
      | map _ _ => cases K <;> simp at hd
      | ptr _ => cases K <;> simp at hd
      | other => cases K <;> simp at hd
    | map k v => cases td <;> cases K <;> simp at hd; simp [Kind.noOpq] at hq
    | pointer e => cases td <;> cases K <;> simp at hd; simp [Kind.noOpq] at hq
    | _ => cases td <;> cases K <;> simp at hd

open Go.WideShapes in
/-- An argument. -/
theorem arg_sound {r : Reach} {b0 : Nat} {t : TypeId} {i : TI} {v : Value} {d : DataW H} {ps : List MemPlace} (hi : E.ty.lookup t = some i) (hq : i.K.noOpq = true) (hok : Value.okWide P w r b0 t v) (h : DataW.Trod enc P w base sp held t v d ps) :
    ∃ x : i.K.den, RS (X0 (fun b => b < w.heap.size) w) (.p i.K x) v ∧ WF i.K x := by
  obtain ⟨fuel, h⟩ := h
  obtain ⟨x, h1, h2⟩ := trod_RP T fuel t i _ _ hi hq h
  refine ⟨x, RS.of0 ?_ (by simp), h2⟩
  obtain ⟨ds, hu, hd⟩ := T.desc hi
  have leaf : i.K.isAgg = false → v.cells = #[v] → RS0 (X0 (fun b => b < w.heap.size) w) (.p i.K x) v := fun ha hv => by
    rw [hv] at h1
    exact .inr ⟨[v], h1, .inr ⟨ha, rfl⟩⟩
  have agg : i.K.isAgg = true → (∃ cs, v = .agg cs) → RS0 (X0 (fun b => b < w.heap.size) w) (.p i.K x) v := fun ha hv => by
    obtain ⟨cs, rfl⟩ := hv
    exact .inr ⟨cs.toList, h1, .inl ⟨ha, by simp⟩⟩
  obtain ⟨K, td, by', cm⟩ := i
  simp only at hd hq leaf agg ⊢
  cases ds with
  | bool => cases td <;> cases K <;> simp at hd; obtain ⟨b, rfl⟩ := okWide_bool hu hok; exact leaf rfl rfl
  | int k => cases td <;> cases K <;> simp at hd; obtain ⟨b, rfl⟩ := okWide_int hu hok; exact leaf rfl rfl
  | string => cases td <;> cases K <;> simp at hd; obtain ⟨b, rfl⟩ := okWide_string hu hok; exact leaf rfl rfl
  | slice e => cases td <;> cases K <;> simp at hd; obtain ⟨a, l, c, rfl⟩ := okWide_slice hu hok; exact leaf rfl rfl
  | array n e =>
    cases td <;> cases K <;> simp at hd
    unfold Value.okWide at hok
    rw [hu] at hok
    obtain ⟨cs, rfl, _⟩ := hok
    exact agg rfl ⟨cs, rfl⟩
  | struct fs =>
    unfold Value.okWide at hok
    rw [hu] at hok
    obtain ⟨cs, rfl, _⟩ := hok
    cases td with
    | struct ts =>
      have hd : fieldsB E.ty fs.toList ts K 0 = true := hd
      have hag : K.isAgg = true := by
        cases hf : fs.toList <;> cases ts <;> cases K <;> simp [hf, fieldsB] at hd <;> rfl
      exact agg hag ⟨cs, rfl⟩
    | prim => cases K <;> simp at hd
    | slice _ => cases K <;> simp at hd
    | array _ _ => cases K <;> simp at hd
    | map _ _ => cases K <;> simp at hd
    | ptr _ => cases K <;> simp at hd
    | other => cases K <;> simp at hd
  | map k v => cases td <;> cases K <;> simp at hd; simp [Kind.noOpq] at hq
  | pointer e => cases td <;> cases K <;> simp at hd; simp [Kind.noOpq] at hq
  | _ => cases td <;> cases K <;> simp at hd

end
end Go.Ev
end

section
/-
  A LAW's CALL.
-/
namespace Go.Ev
open Go.RowKit (Below)

def kb (r : AV) (_ : List Blk) : Option Bool := match r with | .p .bool b => some b | _ => none

theorem law_calls {P : Program} {E : Env Bool} (T : TyOK P E) (fns : FnsOK P E) (hm : P.follows .mixedOrders = true) {f : FuncId} {fn : Func} (B : P.funcs[f]? = some fn)
    (lo : ∀ c, fn.body = some c → ∀ q ∈ loopsOf 0 c, ∀ L, E.lps.lookup q.1 = some L → LoopOK P E.gl q.2 L) {args : List AV} (h : fnK E fn [.pure] args [] kb = some true) (W : World) (vals : Array Value) (hg : GOK E.gl (X0 (fun b => b < W.heap.size) W))
    (hr : All2 (RS (X0 (fun b => b < W.heap.size) W)) args vals.toList) : Calls P f vals W fun e w' => e = .returned (.bool true) ∧ Below W.heap.size W w' := by
  obtain ⟨r, hp, h1, _, h2⟩ := fnK_calls T fns hm B lo h
  have hrr : r = .p .bool true := by
    unfold kb at h1
    split at h1
    · cases h1; rfl
    · cases h1
  subst hrr
  refine (h2 (X0 (fun b => b < W.heap.size) W) vals rfl ⟨fun id b hb => by simp [X0] at hb, fun id id' b c c' h1 => by simp [X0] at h1, fun b hb => ⟨hb, fun ⟨id, blk, h1, _⟩ => by simp [X0] at h1⟩⟩ hg hr).mono fun e w' ⟨u, he, Y, hY, _, hu, _, V, _⟩ => ?_
  rw [RS.bool] at hu
  subst hu; subst hY
  exact ⟨he, V.os, V.tape, V.output, V.size, fun k hk => V.keep k hk fun ⟨id, blk, h, _⟩ => by simp [X0] at h⟩

end Go.Ev
end

section
/-
  FUNCTIONS THAT ARE THE MODEL's OWN: sums and differences with a carry.
-/
namespace Go.Ev
variable {A : Type}

/-- A call of a function without code. -/
theorem run_callFunc_extern {P : Program} {f : FuncId} {fn : Func} {e : Array Value → Sem Value} (B : P.funcs[f]? = some fn) (hb : fn.body = none) (hn : (fn.name == "runtime.NumGoroutine") = false) (h1 : Extern.findNext fn = none) (h2 : Extern.find fn = some e)
    (args : Array Value) (w : World) {u : Value} (hr : (e args).run P w = .ok u w) : (callFunc f args).run P w = .ok (.value u) w := by
  have hn' : ¬ fn.name = "runtime.NumGoroutine" := by simpa using hn
  simp [callFunc, B, hb, hn', h1, h2, hr]

def sub64Entry : Array Value → Sem Value := fun args => do
  let (x, y, b) ← Extern.MathBitsCarry.three "Sub64" args
  pure (Extern.MathBitsCarry.pair ((x + Extern.MathBitsCarry.m64 - y - b) % Extern.MathBitsCarry.m64) (if x < y + b then 1 else 0))

theorem run_sub64 {P : Program} (x y c : Int) (hx : 0 ≤ x) (hy : 0 ≤ y) (hc0 : 0 ≤ c) (hc : c ≤ 1) (hx2 : x < 18446744073709551616) (hy2 : y < 18446744073709551616) (w : World) :
    (sub64Entry #[.int .u64 x, .int .u64 y, .int .u64 c]).run P w = .ok (.tuple #[.int .u64 ((x - y - c) % 18446744073709551616), .int .u64 (if x < y + c then 1 else 0)]) w := by
  have key : ∀ k : Nat, k ≤ 1 → (sub64Entry #[.int .u64 x, .int .u64 y, .int .u64 (k : Int)]).run P w =
      .ok (Extern.MathBitsCarry.pair ((x.toNat + Extern.MathBitsCarry.m64 - y.toNat - k) % Extern.MathBitsCarry.m64) (if x.toNat < y.toNat + k then 1 else 0)) w := by
    intro k hk
    have : k = 0 ∨ k = 1 := by omega
    rcases this with rfl | rfl <;> rfl
  obtain ⟨k, rfl⟩ := Int.eq_ofNat_of_zero_le hc0
  rw [key k (by omega)]
  obtain ⟨X, rfl⟩ := Int.eq_ofNat_of_zero_le hx
  obtain ⟨Y, rfl⟩ := Int.eq_ofNat_of_zero_le hy
  simp only [Extern.MathBitsCarry.pair, Extern.MathBitsCarry.m64, Int.toNat_natCast]
  have e1 : Int.ofNat ((X + 2 ^ 64 - Y - k) % 2 ^ 64) = ((X : Int) - (Y : Int) - (k : Int)) % 18446744073709551616 := by
    show (((X + 2 ^ 64 - Y - k) % 2 ^ 64 : Nat) : Int) = _
    omega
  have e2 : Int.ofNat (if X < Y + k then 1 else 0) = (if (X : Int) < (Y : Int) + (k : Int) then 1 else 0) := by
    by_cases h : X < Y + k
    · rw [if_pos h, if_pos (by omega)]; rfl
    · rw [if_neg h, if_neg (by omega)]; rfl
  rw [e1, e2]

/-- The entry of a function of three numbers and two results. -/
theorem carry_sem {P : Program} {gl : GL} {f : FuncId} {fn : Func} {e : Array Value → Sem Value} (B : P.funcs[f]? = some fn) (hb : fn.body = none) (hn : (fn.name == "runtime.NumGoroutine") = false) (h1 : Extern.findNext fn = none) (h2 : Extern.find fn = some e)
    {x y c r s : Int} (hr : ∀ w, (e #[.int .u64 x, .int .u64 y, .int .u64 c]).run P w = .ok (.tuple #[.int .u64 r, .int .u64 s]) w) :
    FnSem P gl f [.p (.int .u64) x, .p (.int .u64) y, .p (.int .u64) c] [] (.tup [.p (.int .u64) r, .p (.int .u64) s]) [] := by
  intro X vals hX ok _ hargs
  obtain ⟨vl⟩ := vals
  match vl, hargs with
  | [v0, v1, v2], .cons a0 (.cons a1 (.cons a2 .nil)) =>
    rw [RS.int] at a0 a1 a2
    subst a0; subst a1; subst a2
    exact ⟨_, X.w, run_callFunc_extern B hb hn h1 h2 _ X.w (hr X.w), .inl ⟨_, rfl, X, rfl, hX, ⟨#[.int .u64 r, .int .u64 s], rfl, .cons (.inr ⟨_, rfl, .inr ⟨rfl, rfl⟩⟩) (.cons (.inr ⟨_, rfl, .inr ⟨rfl, rfl⟩⟩) .nil)⟩, ok, .refl X, .refl _ X⟩⟩

theorem carry_ok {P : Program} {gl : GL} {f : FuncId} {fn : Func} {e : Array Value → Sem Value} {h : Int → Int → Int → Int × Int} (B : P.funcs[f]? = some fn) (hb : fn.body = none) (hn : (fn.name == "runtime.NumGoroutine") = false) (h1 : Extern.findNext fn = none) (h2 : Extern.find fn = some e)
    (hr : ∀ (x y c : Int), 0 ≤ x → 0 ≤ y → 0 ≤ c → c ≤ 1 → ∀ (P : Program) (w : World), (e #[.int .u64 x, .int .u64 y, .int .u64 c]).run P w = .ok (.tuple #[.int .u64 (h x y c).1, .int .u64 (h x y c).2]) w)
    {g : List AV → (AV → List Blk → Option A) → Option A}
    (hg : ∀ args k out, g args k = some out → ∃ x y c, args = [.p (.int .u64) x, .p (.int .u64) y, .p (.int .u64) c] ∧
      (if 0 ≤ x then if 0 ≤ y then if 0 ≤ c then if c ≤ 1 then k (.tup [.p (.int .u64) (h x y c).1, .p (.int .u64) (h x y c).2]) [] else none else none else none else none) = some out) : FnOK P gl f (pureE g) := fun args hp0 k out hh => by
  cases hp0 with
  | cons b r => cases hh
  | nil =>
    obtain ⟨x, y, c, rfl, hk⟩ := hg args k out hh
    split at hk
    · rename_i g1
      split at hk
      · rename_i g2
        split at hk
        · rename_i g3
          split at hk
          · rename_i g4
            exact ⟨_, _, hk, carry_sem B hb hn h1 h2 fun w => hr x y c g1 g2 g3 g4 P w⟩
          · cases hk
        · cases hk
      · cases hk
    · cases hk

theorem borrow_ok {P : Program} {gl : GL} {f : FuncId} {fn : Func} {e : Array Value → Sem Value} {h : Int → Int → Int → Int × Int} (B : P.funcs[f]? = some fn) (hb : fn.body = none) (hn : (fn.name == "runtime.NumGoroutine") = false) (h1 : Extern.findNext fn = none) (h2 : Extern.find fn = some e)
    (hr : ∀ (x y c : Int), 0 ≤ x → 0 ≤ y → 0 ≤ c → c ≤ 1 → x < 18446744073709551616 → y < 18446744073709551616 → ∀ (P : Program) (w : World), (e #[.int .u64 x, .int .u64 y, .int .u64 c]).run P w = .ok (.tuple #[.int .u64 (h x y c).1, .int .u64 (h x y c).2]) w)
    {g : List AV → (AV → List Blk → Option A) → Option A}
    (hg : ∀ args k out, g args k = some out → ∃ x y c, args = [.p (.int .u64) x, .p (.int .u64) y, .p (.int .u64) c] ∧
      (if 0 ≤ x then if 0 ≤ y then if 0 ≤ c then if c ≤ 1 then if x < 18446744073709551616 then if y < 18446744073709551616 then k (.tup [.p (.int .u64) (h x y c).1, .p (.int .u64) (h x y c).2]) [] else none else none else none else none else none else none) = some out) : FnOK P gl f (pureE g) := fun args hp0 k out hh => by
  cases hp0 with
  | cons b r => cases hh
  | nil =>
    obtain ⟨x, y, c, rfl, hk⟩ := hg args k out hh
    split at hk
    · rename_i g1
      split at hk
      · rename_i g2
        split at hk
        · rename_i g3
          split at hk
          · rename_i g4
            split at hk
            · rename_i g5
              split at hk
              · rename_i g6
                exact ⟨_, _, hk, carry_sem B hb hn h1 h2 fun w => hr x y c g1 g2 g3 g4 g5 g6 P w⟩
              · cases hk
            · cases hk
          · cases hk
        · cases hk
      · cases hk
    · cases hk

theorem fnK_body {E : Env A} {fn : Func} {rm : List RMode} {args : List AV} {hp : List Blk} {k : AV → List Blk → Option A} {c : Code} (hb : fn.body = some c) :
    fnK E fn rm args hp k = codeK E 0 c { tm := args ++ List.replicate (fn.ntmps - args.length) .any, hp := hp, m := hp.length } (endK E fn rm k) := by
  unfold fnK
  rw [hb]

/-- A run of code, cut behind its first part. -/
theorem codeK_cut {E : Env A} {j : Nat} {a b : Code} {S S1 : St} {G : Option A → Option A} (h : ∀ K : Ex → St → Option A, codeK E j a S K = G (K .normal S1)) (K : Ex → St → Option A) :
    codeK E j (.seq a b) S K = G (codeK E (j + loops a) b S1 K) := by
  simp only [codeK]
  rw [h]
  rfl

end Go.Ev
end

section
/-
  A LISTED PACKAGE VARIABLE that holds an array of integers: what the reading says of its cells.
-/
set_option linter.all false
namespace Go.Ev
open Go.ChangeShapes

theorem laid_cells {H : Type} {P : Program} {w : World} {enc : TypeId × Value → H} {sp : Nat → Bool} {held : Bool} {base : Nat} {t e len fuel : Nat} {k : IntKind} {L : List Value} {l : List Int} {p : List MemPlace}
    (hu : P.underlying t = some (.array len e)) (he : P.underlying e = some (.int k)) (hc : P.cellsOf e = 1) (hct : P.cellsOf t = len) (hl : l.length = len)
    (hd : DataW.trod enc P w base sp held fuel t L = some (.agg (l.map fun x => .lit (.int k x)), p)) : L = l.map fun x => Value.int k x := by
  obtain ⟨xs, m, rfl, hx, hlen, hn, hel⟩ := DataW.trod_array hu hd
  simp only [Prod.mk.injEq, DataW.agg.injEq] at hx
  have hxs := hx.1
  apply List.ext_getElem?
  intro i
  by_cases hi : i < len
  · have h1 := hel i hi
    rw [hc, Nat.mul_one, List.getElem?_eq_getElem (by omega)] at h1
    obtain ⟨n, e1, e2, _⟩ := DataW.trod_int he h1
    have h3 : (L.drop i).take 1 = [L[i]'(by omega)] := by
      rw [List.drop_eq_getElem_cons (by omega), List.take_succ_cons, List.take_zero]
    rw [h3] at e1
    have h4 : (xs.map (·.1))[i]? = some (xs[i]'(by omega)).1 := by rw [List.getElem?_map, List.getElem?_eq_getElem (by omega)]; rfl
    rw [← hxs, e2, List.getElem?_map, List.getElem?_eq_getElem (show i < l.length by omega)] at h4
    have h5 : l[i]'(by omega) = n := by simpa using h4
    rw [List.getElem?_eq_getElem (by omega), List.getElem?_map, List.getElem?_eq_getElem (show i < l.length by omega), h5]
    have h6 : L[i]'(by omega) = Value.int k n := by simpa using e1
    rw [h6]; rfl
  · rw [List.getElem?_eq_none (by omega), List.getElem?_eq_none (by rw [List.length_map]; omega)]

theorem laid_RS {P : Program} {w : World} {name : String} {g t e len fuel : Nat} {k : IntKind} {cs : Array Value} {l : List Int} {p : List MemPlace}
    (hu : P.underlying t = some (.array len e)) (he : P.underlying e = some (.int k)) (hc : P.cellsOf e = 1) (hct : P.cellsOf t = len) (hl : l.length = len)
    (hg : P.globalNamed name = some g) (hv : w.var? P name = some cs)
    (hd : DataW.trod (fun _ => ()) P w 0 (fun _ => true) false fuel t cs.toList = some (.agg (l.map fun x => .lit (.int k x)), p)) :
    RS (X0 (fun b => b < w.heap.size) w) (.vp (.arr len (.int k)) l) (.pointer (some ⟨g, 0, none⟩)) := by
  have hL := laid_cells hu he hc hct hl hd
  have hsz : g < w.heap.size := by
    have h := hv
    simp only [World.var?, hg, Option.bind_some] at h
    rcases Nat.lt_or_ge g w.heap.size with h2 | h2
    · exact h2
    · rw [Array.getElem?_eq_none h2] at h; cases h
  refine .inr ⟨_, ⟨_, rfl, ⟨g, 0, none⟩, cs.toList, rfl, hsz, ⟨hl, cs.toList.map fun c => [c], ?_, ?_⟩, fun j u hj => ?_⟩, ?_⟩
  · generalize cs.toList = q
    induction q with
    | nil => rfl
    | cons a r ih => rw [List.map_cons, List.flatten_cons, ← ih]; rfl
  · rw [hL]
    clear hL hd hv hl
    induction l with
    | nil => exact .nil
    | cons x r ih => exact .cons rfl ih
  · have := World.var?_cell hg hv j
    show w.cell? (Addr.add ⟨g, 0, none⟩ j) = some u
    rw [show (Addr.add ⟨g, 0, none⟩ j) = ⟨g, j, none⟩ from by
      unfold Addr.add
      split
      · rename_i h; rw [h]
      · rw [Nat.zero_add]]
    rw [this]
    simpa using hj
  · exact .inr ⟨rfl, rfl⟩

end Go.Ev
end

