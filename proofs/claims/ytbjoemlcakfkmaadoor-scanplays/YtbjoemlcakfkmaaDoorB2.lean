import Derived.Test.YtbjoemlcakfkmaaDoorB1
import Derived.Laws.CopyOwn
import Derived.Laws.Tables
import Derived.WideKeyRuns
import Derived.MapKept
import Derived.ChangeMaps4
import Derived.Laws.MakeOwn
import Derived.Laws.BytesString
set_option linter.all false
section
/-
  THE EVALUATOR's OPERATIONS ARE THE MODEL's, MORE: stores, append.
-/
namespace Go.Ev
variable {A : Type}

/-- An operation that writes a block of ours. -/
theorem opsem_write {P : Program} {o : Oper} {ev : Operand → AV} {sub : List (Nat × Blk)} {fresh : Nat} {v : AV} {id : Nat} {B B' : Blk} (hB : sub.lookup id = some B) (hl : B.live = true) (hl' : B'.live = true) (he : BlkEvo B B')
    (h : ∀ (X : Cx) (a : Act), At X a o ev sub → ∃ (r : Next) (u : Value) (n : Nat) (w' : World), (execOp a.eval o).run P X.w = .ok r w' ∧ (r = .value u ∨ (r = .skip ∧ u = undef)) ∧ X.ρ id = some n ∧
      w'.os = X.w.os ∧ w'.tape = X.w.tape ∧ w'.output = X.w.output ∧ X.w.heap.size ≤ w'.heap.size ∧ (∀ k, k < X.w.heap.size → k ≠ n → w'.heap[k]? = X.w.heap[k]?) ∧
      (∀ (c : Array Value) (e : TypeId) (f : Nat × Nat), X.w.heap[n]? = some (Obj.cells c e f) → ∃ c' : Array Value, w'.heap[n]? = some (Obj.cells c' e f) ∧ c'.size = c.size) ∧
      ∀ Y : Cx, Y = ⟨X.ρ, hpSet X.hp id B', X.F, w'⟩ → WEvo X Y → HEvo X Y → RB Y id B' ∧ RS Y v u) : OpSem P o ev sub fresh v [(id, B')] :=
  ⟨fun q hq => .inr ⟨B, by simp at hq; subst hq; exact hB⟩, fun X a K Q at_ _ hk => by
    obtain ⟨r, u, n, w', hr, hru, hρ, h1, h2, h3, h4, h5, h6, h7⟩ := h X a at_
    obtain ⟨o1, o2, o3⟩ := write_ok at_.ok (at_.sub _ _ hB) hl hρ he hl' (w' := w') (Y := ⟨X.ρ, hpSet X.hp id B', X.F, w'⟩) rfl h1 h2 h3 h4 h5 h6 fun W H => (h7 _ rfl W H).1
    unfold Oper.wp; rw [hr]
    rcases hru with rfl | ⟨rfl, rfl⟩
    · exact hk ⟨X.ρ, hpSet X.hp id B', X.F, w'⟩ u rfl (h7 _ rfl o2 o3).2 o1 o2 o3
    · exact hk ⟨X.ρ, hpSet X.hp id B', X.F, w'⟩ undef rfl (h7 _ rfl o2 o3).2 o1 o2 o3⟩

theorem setRow_size (w : World) (g : Nat) (cs : Array Value) : (w.setRow g cs).heap.size = w.heap.size := by simp [World.setRow]

theorem splice_length {α : Type} {cs vc : List α} {off : Nat} (h : off + vc.length ≤ cs.length) : (splice cs off vc).length = cs.length := by
  simp [splice]; omega

theorem take_splice {α : Type} {cs vc : List α} {off n : Nat} (h : off + vc.length ≤ n) (hn : n ≤ cs.length) : (splice cs off vc).take n = splice (cs.take n) off vc := by
  unfold splice
  have hl : (cs.take off ++ vc).length = off + vc.length := by simp; omega
  rw [List.take_append, List.take_of_length_le (by omega), hl, List.take_take, List.drop_take, Nat.min_eq_left (by omega)]

section
variable {P : Program} {E : Env A} (T : TyOK P E) {o : Oper} {ev : Operand → AV} {sub : List (Nat × Blk)} {fresh : Nat} {k : Cont A} {out : A}

/-- The model's store into a block of ours. -/
theorem run_storeVar_at {X : Cx} {t te : TypeId} {i : TI} (hsz : ∀ w, (sizeOf t).run P w = .ok i.K.size w) {v : Value} {vc cs : List Value} {b off : Nat} (hv : v.cells = vc.toArray) (hl : vc.length = i.K.size) (h1 : ∀ u ∈ vc, u.oneCell' = true)
    (hb : X.w.heap[b]? = some (.cells cs.toArray te (0, 0))) (hle : off + vc.length ≤ cs.length) : (storeVar t ⟨b, off, none⟩ v).run P X.w = .ok () (X.w.setRow b (splice cs off vc).toArray) := by
  have hs := run_storeCells_at P b off te vc 0 cs.toArray X.w hb (by simpa using hle) h1
  simp only [Nat.add_zero] at hs
  simp [storeVar, hsz, hv, hl]
  rw [hs]
  rfl

include T in
theorem store_sound {t : TypeId} {a x : Operand} {y : TI → AV} (ho : o.op = .store t a x) (hy : ∀ (i : TI) (X : Cx) (ac : Act), RS X (ev x) (ac.eval x) → RS X (y i) (ac.eval x))
    (h : (E.ti t fun i => if (y i).isAny then none else if (y i).fits i.K then storeK sub (ev a) (y i) (fun l => k .any l) else none) = some out) : ∃ v l, k v l = some out ∧ OpSem P o ev sub fresh v l := by
  have ma : a ∈ o.op.operands := by simp [Op.operands, ho]
  have mx : x ∈ o.op.operands := by simp [Op.operands, ho]
  obtain ⟨i, hi, h⟩ := ti_sound h
  split at h
  · cases h
  rename_i hna
  split at h
  · rename_i hf
    have hna' : (y i).isAny = false := by simpa using hna
    have val : ∀ (X : Cx) (ac : Act), At X ac o ev sub → ∃ vc, RA X (y i) vc ∧ (ac.eval x).cells = vc.toArray ∧ vc.length = i.K.size ∧ ∀ u ∈ vc, u.oneCell' = true := fun X ac at_ => by
      obtain ⟨vc, h1, h2⟩ := ((hy i X ac (at_.opr x mx)).to0 (fits_noTup hf)).cells hna'
      exact ⟨vc, h1, h2, RA.length hf h1, h1.one⟩
    have world : ∀ (X : Cx) (b : Nat) (te : TypeId) (cs : List Value) (new : Array Value), X.w.heap[b]? = some (.cells cs.toArray te (0, 0)) → new.size = cs.length →
        (X.w.setRow b new).os = X.w.os ∧ (X.w.setRow b new).tape = X.w.tape ∧ (X.w.setRow b new).output = X.w.output ∧ X.w.heap.size ≤ (X.w.setRow b new).heap.size ∧
        (∀ k, k < X.w.heap.size → k ≠ b → (X.w.setRow b new).heap[k]? = X.w.heap[k]?) ∧
        (∀ (c : Array Value) (e : TypeId) (f : Nat × Nat), X.w.heap[b]? = some (Obj.cells c e f) → ∃ c' : Array Value, (X.w.setRow b new).heap[b]? = some (Obj.cells c' e f) ∧ c'.size = c.size) := fun X b te cs new h1 h2 =>
      ⟨rfl, rfl, rfl, by rw [setRow_size]; exact Nat.le_refl _, fun k _ hk => setRow_other _ _ _ _ hk, fun c e f hc => ⟨new, setRow_heap _ _ _ _ _ _ hc, by rw [h1] at hc; cases hc; simp [h2]⟩⟩
    unfold storeK at h
    split at h
    · rename_i id path ea
      obtain ⟨B, hB, h⟩ := look_sound h
      split at h
      · rename_i t' K old
        obtain ⟨new, h, hfn, hs⟩ := setV_sound h
        refine ⟨_, _, h, opsem_write hB rfl rfl (.var ..) fun X ac at_ => ?_⟩
        have h1 := at_.opr a ma; rw [ea] at h1
        have hX := at_.sub _ _ hB
        obtain ⟨b, off, K', h2, h3, h4⟩ := (R1_ptr hX).1 ((RS.one (by simp) (by simp) (by simp) (by simp)).1 h1)
        obtain ⟨hfo, b', cs, h5, h6, h7⟩ := at_.ok.blk _ _ hX
        rw [h2] at h5; cases h5
        obtain ⟨vc, v1, v2, v3, v4⟩ := val X ac at_
        obtain ⟨off', K'', h8, h9, h10⟩ := hs hfo h7 v1
        rw [h3] at h8; cases h8
        have hle : off + vc.length ≤ cs.length := by rw [RA.length h9 v1, RA.length hfo h7]; exact koff_le h3
        obtain ⟨w1, w2, w3, w4, w5, w6⟩ := world X b t' cs (splice cs off vc).toArray h6 (by simp [splice_length hle])
        refine ⟨.skip, undef, b, _, ?_, .inr ⟨rfl, rfl⟩, h2, w1, w2, w3, w4, w5, w6, fun Y hY W H => ?_⟩
        · simp [execOp, ho, Instr.storeAt, h4, Instr.sureAddr, run_storeVar_at (i := i) (T.runSize hi) v2 v3 v4 h6 hle]
        · subst hY
          exact ⟨⟨hfn hfo, b, splice cs off vc, h2, setRow_heap _ _ _ _ _ _ h6, h10.evo W H at_.ok.fo⟩, RS.any _⟩
      · rename_i t' K xs
        -- into a row
        have fin : ∀ (i0 : Nat) (r : List Hop) (z : K.den), path = .idx i0 :: r → i0 < xs.length →
            (∀ (X : Cx) (y0 : K.den) (c vc : List Value), xs[i0]? = some y0 → RP X.F X.w K y0 c → RA X (y i) vc → ∃ off K', koff K r = some (off, K') ∧ (y i).fits K' = true ∧ RP X.F X.w K z (splice c off vc)) →
            OpSem P o ev sub fresh .any [(id, .row t' K (xs.set i0 z))] := fun i0 r z hp hlt hz => opsem_write hB rfl rfl (.row _ _ _ _ (by simp)) fun X ac at_ => by
          have h1 := at_.opr a ma; rw [ea] at h1
          have hX := at_.sub _ _ hB
          obtain ⟨b, i', r', off, K1, hp', _, h2, h3, h4⟩ := (R1_ptrR hX).1 ((RS.one (by simp) (by simp) (by simp) (by simp)).1 h1)
          rw [hp] at hp'
          simp only [List.cons.injEq, Hop.idx.injEq] at hp'
          obtain ⟨rfl, rfl⟩ := hp'
          obtain ⟨cur, cap, css, h5, h6, h7, h8, h9, h10, h11⟩ := row_cells (at_.ok.blk _ _ hX) h2
          obtain ⟨vc, v1, v2, v3, v4⟩ := val X ac at_
          obtain ⟨y0, hy0⟩ : ∃ y0, xs[i0]? = some y0 := ⟨_, List.getElem?_eq_getElem hlt⟩
          obtain ⟨c, hc, hrc⟩ := h9.get hy0
          obtain ⟨off', K'', q1, q2, q3⟩ := hz X y0 c vc hy0 hrc v1
          rw [h3] at q1; cases q1
          have hoff := koff_le h3
          have hvl := RA.length q2 v1
          have hfl : css.flatten.length = xs.length * K.size := by rw [flatten_length h9.lens, ← h9.length]
          have hcl : xs.length * K.size ≤ cur.size := by rw [h6]; exact Nat.mul_le_mul_right _ h7
          have hi1 : (i0 + 1) * K.size ≤ xs.length * K.size := Nat.mul_le_mul_right _ hlt
          rw [Nat.add_mul, Nat.one_mul] at hi1
          have hle : i0 * K.size + off + vc.length ≤ cur.toList.length := by simp only [Array.length_toList]; omega
          have hcell : X.w.heap[b]? = some (.cells cur.toList.toArray t' (0, 0)) := by simpa using h5
          obtain ⟨w1, w2, w3, w4, w5, w6⟩ := world X b t' cur.toList (splice cur.toList (i0 * K.size + off) vc).toArray hcell (by simp [splice_length hle])
          refine ⟨.skip, undef, b, _, ?_, .inr ⟨rfl, rfl⟩, h2, w1, w2, w3, w4, w5, w6, fun Y hY W H => ?_⟩
          · simp [execOp, ho, Instr.storeAt, h4, Instr.sureAddr, run_storeVar_at (i := i) (T.runSize hi) v2 v3 v4 hcell hle]
          · subst hY
            refine ⟨.inr ⟨b, _, cap, css.set i0 (splice c off vc), h2, setRow_heap _ _ _ _ _ _ h5, by simp [splice_length hle, h6], by simpa using h7, h8, ((h9.set i0 q3)).imp fun _ _ _ _ hr => RP.evo W at_.ok.fo hr, ?_⟩, RS.any _⟩
            rw [← flatten_splice h9.lens hc (by omega), h10]
            simp only [List.length_set]
            rw [take_splice (by omega) (by simpa using hcl)]
        split at h
        · rename_i i0 _
          obtain ⟨z, hx, hlt, h⟩ := setIn_sound h
          refine ⟨_, _, h, fin i0 [] z rfl hlt fun X y0 c vc _ hrc hv => ⟨0, K, koff_nil K, by rw [hx]; simp [AV.fits], ?_⟩⟩
          rw [hx] at hv
          rw [splice_all (by rw [RP.length hrc, RP.length (show RP X.F X.w K z vc from hv)])]
          exact hv
        · rename_i i0 hh r _
          obtain ⟨y, hy, h⟩ := Option.bind_eq_some_iff.1 h
          obtain ⟨y', h, _, hs⟩ := setK_sound h
          obtain ⟨z, rfl, hlt, h⟩ := setIn_sound h
          refine ⟨_, _, h, fin i0 (hh :: r) z rfl hlt fun X y0 c vc hy0 hrc hv => ?_⟩
          rw [hy] at hy0; cases hy0
          exact hs hrc hv
        · cases h
      · cases h
    · cases h
  · cases h

end
end Go.Ev
end

section
/-
  THE EVALUATOR's OPERATIONS ARE THE MODEL's, MORE: slices as lists; append.
-/
namespace Go.Ev
variable {A : Type}

/-- What a slice's elements are, and where they lie. -/
structure Elems (X : Cx) (ids : List Nat) (K : Kind) (ys : List K.den) (u : Value) : Prop where
  get : ∃ ao c, u = .slice ao ys.length c ∧ ys.length ≤ c ∧ (0 < ys.length → ∃ ad css, ao = some ad ∧ (X.F ad.block ∨ ∃ id ∈ ids, X.ρ id = some ad.block ∧ ∃ b, X.hp[id]? = some b ∧ b.live = true) ∧
    All2 (RP X.F X.w K) ys css ∧ ∀ j u', css.flatten[j]? = some u' → X.w.cell? (ad.add j) = some u')

theorem listK_sound {out : A} {sub : List (Nat × Blk)} {v : AV} {k : (K : Kind) → List K.den → Option A} (h : listK sub v k = some out) :
    ∃ K ys, k K ys = some out ∧ ∀ (X : Cx) (u : Value), Ok X → (∀ (id : Nat) (b : Blk), sub.lookup id = some b → X.hp[id]? = some b) → RS X v u → Elems X v.ids K ys u := by
  unfold listK at h
  split at h
  · rename_i K xs
    refine ⟨K, xs, h, fun X u ok hs hr => ⟨?_⟩⟩
    obtain ⟨ao, cap, h1, h2, h3⟩ := sl_elem hr
    refine ⟨ao, cap, h1, h2, fun hp => ?_⟩
    obtain ⟨ad, css, h4, h5, h6, h7⟩ := h3 hp
    exact ⟨ad, css, h4, .inl h5, h6, h7⟩
  · rename_i id
    obtain ⟨B, hB, h⟩ := look_sound h
    split at h
    · rename_i t K xs
      refine ⟨K, xs, h, fun X u ok hs hr => ⟨?_⟩⟩
      have hX := hs _ _ hB
      rcases (R1_row hX).1 ((RS.one (by simp) (by simp) (by simp) (by simp)).1 hr) with ⟨_, h1, h2⟩ | ⟨b, cap, cur, h1, h2, _, _, h3⟩
      · exact ⟨none, 0, by rw [h2, h1], by omega, fun hp => by omega⟩
      · refine ⟨_, cap, h2, h3, fun hp => ?_⟩
        obtain ⟨cur', cap', css, _, _, _, _, h4, _, h5⟩ := row_cells (ok.blk _ _ hX) h1
        exact ⟨_, css, rfl, .inr ⟨id, by simp [AV.ids], h1, _, hX, rfl⟩, h4, h5⟩
    · cases h
  · rename_i id lo len
    obtain ⟨B, hB, h⟩ := look_sound h
    split at h
    · rename_i t K xs
      refine ⟨K, _, h, fun X u ok hs hr => ⟨?_⟩⟩
      have hX := hs _ _ hB
      obtain ⟨h1, ao, c, h2, h3, h4⟩ := (R1_sub hX).1 ((RS.one (by simp) (by simp) (by simp) (by simp)).1 hr)
      have hl : ((xs.drop lo).take len).length = len := by simp; omega
      refine ⟨ao, c, by rw [hl]; exact h2, by omega, fun hp => ?_⟩
      rw [hl] at hp
      obtain ⟨b, h5, rfl⟩ := h4 hp
      obtain ⟨cur', cap', css, _, _, _, _, h6, _, h7⟩ := row_cells (ok.blk _ _ hX) h5
      refine ⟨_, (css.drop lo).take len, rfl, .inr ⟨id, by simp [AV.ids], h5, _, hX, rfl⟩, (h6.drop lo).take len, fun j u' hj => ?_⟩
      have := h7 _ _ (part_get h6.lens hj)
      rw [add_lit, Nat.zero_add] at this
      rw [add_lit]
      exact this
    · cases h
  · rename_i id path lo len
    obtain ⟨B, hB, h⟩ := look_sound h
    split at h
    · rename_i t K av
      obtain ⟨y, h, hs'⟩ := getV_sound h
      split at h
      · rename_i n e l
        refine ⟨e, _, h, fun X u ok hs hr => ⟨?_⟩⟩
        have hX := hs _ _ hB
        obtain ⟨b, off, n', e', h1, h2, h3, ao, c, h4, h5, h6⟩ := (R1_slc hX).1 ((RS.one (by simp) (by simp) (by simp) (by simp)).1 hr)
        obtain ⟨hfo, b', cs, h7, h8, h9⟩ := ok.blk _ _ hX
        rw [h1] at h7; cases h7
        obtain ⟨off', K', h10, h11, h12⟩ := hs' hfo h9
        rw [h2] at h10
        simp only [Option.some.injEq, Prod.mk.injEq] at h10
        obtain ⟨rfl, rfl⟩ := h10
        simp only [AV.fits, decide_eq_true_eq, Kind.arr.injEq] at h11
        obtain ⟨rfl, rfl⟩ := h11
        obtain ⟨hl, css, hcut, hr'⟩ := h12
        have hlen : ((l.drop lo).take len).length = len := by simp; omega
        refine ⟨ao, c, by rw [hlen]; exact h4, by omega, fun hp => ?_⟩
        rw [hlen] at hp
        obtain rfl := h6 hp
        refine ⟨_, (css.drop lo).take len, rfl, .inr ⟨id, by simp [AV.ids], h1, _, hX, rfl⟩, (hr'.drop lo).take len, fun j u' hj => ?_⟩
        have := part_get hr'.lens hj
        rw [← hcut] at this
        have := cut_get this
        rw [add_lit, cell_of_row _ _ _ _ _ _ h8]
        simpa [Nat.add_assoc] using this
      · cases h
    · cases h
  · cases h

section
variable {P : Program} {E : Env A} (T : TyOK P E) {o : Oper} {ev : Operand → AV} {sub : List (Nat × Blk)} {fresh : Nat} {k : Cont A} {out : A}

include T in
theorem TyOK.zeroInfo {t : TypeId} {i : TI} (h : E.ty.lookup t = some i) : ∃ inf z, P.info? t = some inf ∧ inf.zero = some z ∧ inf.size = i.K.size ∧ inf.bytes = i.bytes ∧ z.cells.size = i.K.size ∧ (∀ F w, RP F w i.K i.K.zero z.cells.toList) := by
  obtain ⟨inf, d, h1, _, h2, h3⟩ := T.info h
  have := T t i h
  unfold tyB at this
  rw [h1] at this
  split at this
  · rename_i inf' d' h4 h5
    cases h4
    simp only [Bool.and_eq_true] at this
    have hz := this.1.1.2
    split at hz
    · rename_i cs hcs
      simp only [Bool.and_eq_true] at hz
      have hr := fun F w => zeroB_RP (F := F) (w := w) hz.2
      refine ⟨inf, .agg cs, h1, hcs, h2, h3, ?_, hr⟩
      have := RP.length (hr (fun _ => False) default)
      simpa [Value.cells] using this
    · rename_i z hz1 hz2
      simp only [Bool.and_eq_true, Bool.not_eq_true'] at hz
      have e : z.cells = #[z] := by
        have := hz.1.2
        cases z <;> first | rfl | (simp [Value.oneCell'] at this)
      have hr := fun F w => zeroB_RP (F := F) (w := w) hz.2
      refine ⟨inf, z, h1, hz2, h2, h3, ?_, by rw [e]; exact hr⟩
      have := RP.length (hr (fun _ => False) default)
      rw [e]; simpa using this
    · cases hz
  · cases this

/-- Nothing appended. -/
theorem run_append_zero {t ty e : TypeId} {inf : TypeInfo} (hu : P.underlying t = some (.slice e)) (hi : P.info? e = some inf) {base ao : Option Addr} {n cap c : Nat} (hn : n ≤ cap) (w : World) :
    (Builtin.append_ #[t, t] ty #[.slice base n cap, .slice ao 0 c]).run P w = .ok (.slice base n cap) w := by
  cases ao <;> cases base <;> simp [Builtin.append_, run_underlying hu, sizeOf, typeInfo, hi, Builtin.lenOf, hn, Builtin.firstCells, loadCells, loadCellsFrom, storeCells]

include T in
theorem append_sound {t : TypeId} {ts : List TypeId} {s x : Operand} {c : Call} (ho : o.op = .call c) (hc : c.callee = .builtin .append) (ha : c.args.toList = [s, x]) (ht : c.argTypes.toList = t :: ts) (hts : ts = [t])
    (h : appendK E sub t (ev s) (ev x) fresh k = some out) : ∃ v l, k v l = some out ∧ OpSem P o ev sub fresh v l := by
  subst hts
  have ha' : c.args = #[s, x] := Array.toList_inj.1 ha
  have ht' : c.argTypes = #[t, t] := Array.toList_inj.1 ht
  have ms : s ∈ o.op.operands := by simp [Op.operands, ho, Call.operands, hc, ha']
  have mx : x ∈ o.op.operands := by simp [Op.operands, ho, Call.operands, hc, ha']
  have pre : ∀ (ac : Act) (w w' : World) (r : Value), (Builtin.append_ #[t, t] o.type #[ac.eval s, ac.eval x]).run P w = .ok r w' → (execOp ac.eval o).run P w = .ok (.value r) w' := fun ac w w' r hr => by
    simp [execOp, ho, resolve, hc, ha', ht', invoke, builtin, hr]
  unfold appendK at h
  split at h
  · rename_i id es
    obtain ⟨B, hB, h⟩ := look_sound h
    split at h
    · rename_i e K xs
      obtain ⟨ti, hti, h⟩ := ti_sound h
      split at h
      · rename_i e' hd
        split at h
        · rename_i he; subst he
          obtain ⟨tj, htj, h⟩ := ti_sound h
          obtain ⟨hu, j, hj, hK, hpos, hbpos⟩ := T.slice hti hd
          rw [htj] at hj; cases hj
          split at h
          · rename_i hKj; subst hKj
            obtain ⟨K', ys, h, hl⟩ := listK_sound h
            split at h
            · rename_i hKK; subst hKK
              split at h
              · rename_i hbytes
                obtain ⟨inf, z, hi, hz, hsz, hby, hzs, hzr⟩ := T.zeroInfo htj
                refine ⟨_, _, h, fun q hq => ?_, fun X a Kc Q at_ hun hk => ?_⟩
                · simp at hq; rcases hq with rfl | rfl
                  · exact .inr ⟨_, hB⟩
                  · exact .inl (Nat.le_refl _)
                · have hX := at_.sub _ _ hB
                  have hunf := hun (fresh, .row e' tj.K (xs ++ ys)) (by simp) (Nat.le_refl _)
                  have h1 := at_.opr s ms; rw [es] at h1
                  obtain ⟨ao, cy, hx, hcy, hel⟩ := (hl X _ at_.ok at_.sub (at_.opr x mx)).get
                  have hsrow := (R1_row hX).1 ((RS.one (by simp) (by simp) (by simp) (by simp)).1 h1)
                  have hrb := at_.ok.blk _ _ hX
                  have hlen : (xs ++ ys).length = xs.length + ys.length := List.length_append
                  have hsmall : xs.length + ys.length ≤ 140737488355328 := Nat.le_trans (Nat.le_mul_of_pos_right _ hbpos) hbytes
                  have hml : xs.length + ys.length ≤ maxLen := by simp only [maxLen]; omega
                  -- the end, for each way
                  have fin : ∀ (q : Option Nat) (w' : World) (r : Value), (Builtin.append_ #[t, t] o.type #[a.eval s, a.eval x]).run P X.w = .ok r w' → w'.os = X.w.os → w'.tape = X.w.tape → w'.output = X.w.output → X.w.heap.size ≤ w'.heap.size →
                      (∀ k, k < X.w.heap.size → X.ρ id ≠ some k → w'.heap[k]? = X.w.heap[k]?) →
                      (∀ n, X.ρ id = some n → ∀ (c : Array Value) (e : TypeId) (f : Nat × Nat), X.w.heap[n]? = some (Obj.cells c e f) → ∃ c' : Array Value, w'.heap[n]? = some (Obj.cells c' e f) ∧ c'.size = c.size) →
                      (q = X.ρ id ∨ ∀ n, q = some n → X.w.heap.size ≤ n) →
                      (∀ Y : Cx, Y = ⟨upd X.ρ fresh q, hpSet (hpSet X.hp id .gone) fresh (.row e' tj.K (xs ++ ys)), X.F, w'⟩ → WEvo X Y → HEvo X Y → RB Y fresh (.row e' tj.K (xs ++ ys)) ∧ RS Y (.row fresh) r) → o.wp P a X.w Kc Q := fun q w' r hr g1 g2 g3 g4 g5 g6 g7 g8 => by
                    obtain ⟨o1, o2, o3⟩ := move_ok at_.ok hX rfl hunf (B' := .row e' tj.K (xs ++ ys)) (q := q) (w' := w') (Y := ⟨upd X.ρ fresh q, hpSet (hpSet X.hp id .gone) fresh (.row e' tj.K (xs ++ ys)), X.F, w'⟩) rfl g1 g2 g3 g4 g5 g6 g7 fun W H => (g8 _ rfl W H).1
                    unfold Oper.wp; rw [pre a X.w w' r hr]
                    exact hk ⟨upd X.ρ fresh q, hpSet (hpSet X.hp id .gone) fresh (.row e' tj.K (xs ++ ys)), X.F, w'⟩ r rfl (g8 _ rfl o2 o3).2 o1 o2 o3
                  have hgetY : ∀ (q : Option Nat) (w' : World), (⟨upd X.ρ fresh q, hpSet (hpSet X.hp id .gone) fresh (.row e' tj.K (xs ++ ys)), X.F, w'⟩ : Cx).hp[fresh]? = some (.row e' tj.K (xs ++ ys)) := fun q w' => hpSet_same ..
                  rcases Nat.eq_zero_or_pos ys.length with hy0 | hy0
                  · -- nothing appended
                    have hys : ys = [] := List.eq_nil_of_length_eq_zero hy0
                    subst hys
                    rw [hy0] at hx
                    rcases hsrow with ⟨hρ, hx0, hs⟩ | ⟨b, cap, cur, hρ, hs, hcur, hcs, hle⟩
                    · refine fin none X.w (.slice none 0 0) ?_ rfl rfl rfl (Nat.le_refl _) (fun _ _ _ => rfl) (fun n hn => by rw [hρ] at hn; cases hn) (.inl hρ.symm) fun Y hY W H => ?_
                      · rw [hs, hx]; exact run_append_zero hu hi (Nat.le_refl _) _
                      · subst hY
                        exact ⟨.inl ⟨upd_same .., by simpa using hx0⟩, RS.row_nil (hgetY _ _) (upd_same ..) (by simpa using hx0)⟩
                    · refine fin (some b) X.w (.slice (some ⟨b, 0, none⟩) xs.length cap) ?_ rfl rfl rfl (Nat.le_refl _) (fun _ _ _ => rfl) (fun n _ c e f hc => ⟨c, hc, rfl⟩) (.inl hρ.symm) fun Y hY W H => ?_
                      · rw [hs, hx]; exact run_append_zero hu hi hle _
                      · obtain ⟨cur', cap', css, r1, r2, r3, r4, r5, r6, _⟩ := row_cells hrb hρ
                        rw [hcur] at r1; cases r1
                        have hcc : cap' = cap := Nat.eq_of_mul_eq_mul_right hpos (r2.symm.trans hcs)
                        subst hcc
                        subst hY
                        refine ⟨.inr ⟨b, cur, cap', css, upd_same .., hcur, hcs, by simpa using r3, r4, by simpa using (r5.imp fun _ _ _ _ hr => RP.evo W at_.ok.fo hr), by simpa using r6⟩, ?_⟩
                        have := RS.row_new (hgetY (some b) X.w) (upd_same ..) hcur hcs (by simpa using hle)
                        simpa using this
                  · obtain ⟨ad, cssy, rfl, _, hyr, hyc⟩ := hel hy0
                    have hnl : cssy.flatten.length = ys.length * inf.size := by rw [flatten_length hyr.lens, ← hyr.length, hsz]
                    have hn1 : ∀ u ∈ cssy.flatten, u.oneCell' = true := fun u hu => by
                      obtain ⟨c, hc, hu⟩ := List.mem_flatten.1 hu
                      obtain ⟨m, hm⟩ := List.mem_iff_getElem?.1 hc
                      obtain ⟨_, _, hr⟩ := hyr.get' hm
                      exact RP.one hr u hu
                    -- a new block
                    have grown : ∀ (cap : Nat) (cssx : List (List Value)) (xs' : Array Value), xs.length + ys.length ≤ cap → cap ≤ maxLen → All2 (RP X.F X.w tj.K) xs cssx → xs' = (cssx.flatten ++ cssy.flatten).toArray ++ Builtin.zeroCells z.cells (cap - (xs.length + ys.length)) →
                        ∀ Y : Cx, Y = ⟨upd X.ρ fresh (some X.w.heap.size), hpSet (hpSet X.hp id .gone) fresh (.row e' tj.K (xs ++ ys)), X.F, X.w.drew.alloc (.cells xs' e')⟩ → WEvo X Y → HEvo X Y →
                        RB Y fresh (.row e' tj.K (xs ++ ys)) ∧ RS Y (.row fresh) (.slice (some ⟨X.w.heap.size, 0, none⟩) (xs.length + ys.length) cap) := fun cap cssx xs' hcap hcm hxr hxs' Y hY W H => by
                      have hxl : cssx.flatten.length = xs.length * tj.K.size := by rw [flatten_length hxr.lens, ← hxr.length]
                      have hyl : cssy.flatten.length = ys.length * tj.K.size := by rw [flatten_length hyr.lens, ← hyr.length]
                      have hnew : Y.w.heap[X.w.heap.size]? = some (.cells xs' e' (0, 0)) := by subst hY; exact heap_alloc_new X.w.drew _
                      have hsize : xs'.size = cap * tj.K.size := by
                        rw [hxs']
                        simp only [Array.size_append, List.size_toArray, List.length_append, size_zeroCells, hzs, hxl, hyl, ← Nat.add_mul]
                        congr 1; omega
                      have hρY : Y.ρ fresh = some X.w.heap.size := by subst hY; exact upd_same ..
                      have hYg : Y.hp[fresh]? = some (.row e' tj.K (xs ++ ys)) := by subst hY; exact hpSet_same ..
                      refine ⟨.inr ⟨X.w.heap.size, xs', cap, cssx ++ cssy, hρY, hnew, hsize, by rw [hlen]; exact hcap, hcm, (hxr.append hyr).imp fun _ _ _ _ hr => RP.evo W at_.ok.fo hr, ?_⟩, ?_⟩
                      · rw [hxs', List.flatten_append, hlen, Nat.add_mul, ← hxl, ← hyl]
                        simp only [Array.toList_append, List.toList_toArray]
                        rw [List.take_append_of_le_length (by simp), List.take_of_length_le (by simp)]
                      · have := RS.row_new hYg hρY hnew hsize (by rw [hlen]; exact hcap)
                        rwa [hlen] at this
                    rcases hsrow with ⟨hρ, hx0, hs⟩ | ⟨b, cap, cur, hρ, hs, hcur, hcs, hle⟩
                    · -- onto nil
                      have hxs : xs = [] := List.eq_nil_of_length_eq_zero hx0
                      have hr := run_append_nil (P := P) X.w t o.type e' inf z hu hi hz ad ys.length cy cssy.flatten hnl hyc hy0 (by omega) (by rw [hby]; have := Nat.mul_le_mul_right tj.bytes (Nat.le_add_left ys.length xs.length); omega)
                      have hge := grownCap_ge X.w ys.length 0 e'
                      rw [← hs, ← hx] at hr
                      refine fin (some X.w.heap.size) _ _ hr rfl rfl rfl (by simp) (fun m hm _ => heap_alloc_old X.w.drew _ hm) (fun n hn => by rw [hρ] at hn; cases hn) (.inr fun n hn => (Option.some.inj hn) ▸ Nat.le_refl _) fun Y hY W H => ?_
                      have := grown (grownCap X.w ys.length 0 e') [] _ (by omega) (grownCap_le_maxLen X.w ys.length 0 e' (by omega)) (by rw [hxs]; exact .nil) rfl Y (by rw [hY]; simp [hx0]) W H
                      simpa [hx0] using this
                    · obtain ⟨cur', cap', cssx, r1, r2, r3, r4, r5, r6, r7⟩ := row_cells hrb hρ
                      rw [hcur] at r1; cases r1
                      have hcc : cap' = cap := Nat.eq_of_mul_eq_mul_right hpos (r2.symm.trans hcs)
                      subst hcc
                      have hxl : cssx.flatten.length = xs.length * tj.K.size := by rw [flatten_length r5.lens, ← r5.length]
                      have hyl : cssy.flatten.length = ys.length * tj.K.size := by rw [flatten_length hyr.lens, ← hyr.length]
                      by_cases hroom : xs.length + ys.length ≤ cap'
                      · have hfit : xs.length * inf.size + cssy.flatten.length ≤ cur.size := by rw [hnl, hsz, hcs, ← Nat.add_mul]; exact Nat.mul_le_mul_right _ hroom
                        have hr := run_append_room (P := P) X.w t o.type e' inf hu hi b xs.length cap' cur hcur ad ys.length cy cssy.flatten hnl hyc hn1 hroom hfit
                        have hsz2 : ((cur.toList.take (xs.length * inf.size) ++ cssy.flatten ++ cur.toList.drop (xs.length * inf.size + cssy.flatten.length)).toArray).size = cur.size := by
                          simp only [List.size_toArray, List.length_append, List.length_take, List.length_drop, Array.length_toList]; omega
                        rw [← hs, ← hx] at hr
                        refine fin (some b) _ _ hr rfl rfl rfl (by rw [setRow_size]; exact Nat.le_refl _) (fun m _ hm => setRow_other _ _ _ _ fun e => hm (e ▸ hρ))
                          (fun n hn c e f hc => by rw [hρ] at hn; cases hn; rw [hcur] at hc; cases hc; exact ⟨_, setRow_heap _ _ _ _ _ _ hcur, hsz2⟩) (.inl hρ.symm) fun Y hY W H => ?_
                        have hnew : Y.w.heap[b]? = some (.cells (cur.toList.take (xs.length * inf.size) ++ cssy.flatten ++ cur.toList.drop (xs.length * inf.size + cssy.flatten.length)).toArray e' (0, 0)) := by subst hY; exact setRow_heap _ _ _ _ _ _ hcur
                        have hρY : Y.ρ fresh = some b := by subst hY; exact upd_same ..
                        have hYg : Y.hp[fresh]? = some (.row e' tj.K (xs ++ ys)) := by subst hY; exact hpSet_same ..
                        refine ⟨.inr ⟨b, _, cap', cssx ++ cssy, hρY, hnew, by rw [hsz2, hcs], by rw [hlen]; exact hroom, r4, (r5.append hyr).imp fun _ _ _ _ hr => RP.evo W at_.ok.fo hr, ?_⟩, ?_⟩
                        · rw [List.flatten_append, hlen, Nat.add_mul, hsz, ← r6, ← hxl, ← hyl]
                          simp only [List.toList_toArray]
                          rw [List.take_append_of_le_length (by simp), List.take_of_length_le (by simp)]
                        · have := RS.row_new hYg hρY hnew (by rw [hsz2, hcs]) (by rw [hlen]; exact hroom)
                          rwa [hlen] at this
                      · have hr := run_append_grow (P := P) X.w t o.type e' inf z hu hi hz ⟨b, 0, none⟩ xs.length cap' cssx.flatten (by rw [hxl, hsz]) r7 ad ys.length cy cssy.flatten hnl hyc (by omega) (by omega) (growslice_fits (by omega) (by rw [hby]; exact hbytes))
                        have hge := grownCap_ge X.w (xs.length + ys.length) cap' e'
                        rw [← hs, ← hx] at hr
                        refine fin (some X.w.heap.size) _ _ hr rfl rfl rfl (by simp) (fun m hm _ => heap_alloc_old X.w.drew _ hm)
                          (fun n hn c e f hc => ⟨c, by rw [heap_alloc_old X.w.drew _ (show n < X.w.drew.heap.size from (Array.getElem?_eq_some_iff.1 hc).1)]; exact hc, rfl⟩) (.inr fun n hn => (Option.some.inj hn) ▸ Nat.le_refl _) fun Y hY W H => ?_
                        exact grown _ cssx _ hge (grownCap_le_maxLen X.w _ cap' e' hml) r5 (by simp) Y hY W H
              · cases h
            · cases h
          · cases h
        · cases h
      · cases h
    · cases h
  · cases h

end
end Go.Ev
end

section
/-
  THE EVALUATOR's OPERATIONS ARE THE MODEL's, MORE: values and slices built of parts.
-/
namespace Go.Ev
variable {A : Type}

theorem fold_set : ∀ (vc : List Value) (off n : Nat) (cs : List Value), off + n + vc.length ≤ cs.length →
    (vc.zipIdx n).foldl (fun (c : Array Value) (q : Value × Nat) => c.setIfInBounds (off + q.2) q.1) cs.toArray = (splice cs (off + n) vc).toArray
  | [], off, n, cs, h => by simp [splice]
  | v :: vc, off, n, cs, h => by
    simp only [List.length_cons] at h
    have ih := fold_set vc off (n + 1) (cs.set (off + n) v) (by simp; omega)
    simp only [List.zipIdx_cons, List.foldl_cons, List.setIfInBounds_toArray]
    rw [ih]
    congr 1
    refine List.ext_getElem? fun j => ?_
    unfold splice
    simp only [List.getElem?_append, List.length_take, List.length_append, List.length_set, List.length_cons, List.getElem?_take, List.getElem?_drop, List.getElem?_set]
    rcases Nat.lt_trichotomy j (off + n) with h1 | h1 | h1
    · simp (disch := omega) only [Nat.min_eq_left, if_pos, if_neg]
    · subst h1
      have e : min (off + (n + 1)) cs.length = off + (n + 1) := by omega
      have e' : min (off + n) cs.length = off + n := by omega
      rw [e, e']
      simp (disch := omega) [show off + n < off + (n + 1) by omega, show off + n < cs.length by omega]
      rw [if_pos (by omega)]; rfl
    · have e : min (off + (n + 1)) cs.length = off + (n + 1) := by omega
      have e' : min (off + n) cs.length = off + n := by omega
      rw [e, e']
      by_cases h2 : j < off + (n + 1) + vc.length
      · rw [if_pos h2, if_neg (by omega), if_pos (by omega), if_neg (by omega)]
        rw [show j - (off + n) = (j - (off + (n + 1))) + 1 by omega, List.getElem?_cons_succ]
      · rw [if_neg h2, if_neg (by omega), if_neg (by omega)]
        congr 1; omega

theorem fill_step {v : Value} {vc cs : List Value} {off : Nat} (hv : v.cells = vc.toArray) (h : off + vc.length ≤ cs.length) :
    v.cells.zipIdx.foldl (fun cs (c, j) => cs.setIfInBounds (off + j) c) cs.toArray = (splice cs off vc).toArray := by
  rw [hv]
  have := fold_set vc off 0 cs (by simpa using h)
  simpa using this

theorem nilAs_RS {X : Cx} {a : Act} {K : Option Kind} {x : Operand} {v : AV} (h : RS X v (a.eval x)) : RS X (nilAs K x v) (a.eval x) := by
  unfold nilAs
  split
  · exact RS.of0 (.inr ⟨[.slice none 0 0], ⟨none, 0, rfl, Nat.le_refl _, fun h => absurd h (by simp)⟩, .inr ⟨rfl, rfl⟩⟩) (by simp)
  · exact h

theorem fillK_sound {f : Nat × Operand → AV} {out : A} {K : Kind} : ∀ {ps : List (Nat × Operand)} {v : AV} {k : AV → Option A}, fillK K (ps.map fun q => (q.1, f q)) v k = some out →
    ∃ v', k v' = some out ∧ (v.fits K = true → v'.fits K = true) ∧ ∀ (X : Cx) (g : Operand → Value) (place : Nat → Option (Nat × Nat)) (cs : List Value),
      (∀ i off K', koff K [hopOf K i] = some (off, K') → place i = some (off, K'.size)) → v.fits K = true → (∀ q ∈ ps, RS X (f q) (g q.2)) → RA X v cs →
      ∃ cs', Instr.fill place cs.toArray (ps.map fun q => (q.1, g q.2)) = some cs'.toArray ∧ RA X v' cs'
  | [], v, k, h => ⟨v, h, fun h => h, fun X g place cs _ _ _ hr => ⟨cs, rfl, hr⟩⟩
  | (i, x) :: ps, v, k, h => by
    simp only [List.map_cons, fillK] at h
    split at h
    · cases h
    · rename_i hna
      simp only [Bool.or_eq_true, not_or, Bool.not_eq_true] at hna
      obtain ⟨hna', htup⟩ := hna
      obtain ⟨y, h, hf, hs⟩ := setV_sound h
      obtain ⟨v', h, hf', hs'⟩ := fillK_sound h
      refine ⟨v', h, fun h => hf' (hf h), fun X g place cs hpl hfit hall hr => ?_⟩
      have hx := (hall (i, x) (by simp)).to0 (fun vs e => by rw [e] at htup; cases htup)
      obtain ⟨vc, h1, h2⟩ := hx.cells hna'
      obtain ⟨off, K', h3, h4, h5⟩ := hs hfit hr h1
      have hl := RA.length h4 h1
      have hle := koff_le h3
      have hcl := RA.length hfit hr
      obtain ⟨cs', h6, h7⟩ := hs' X g place _ hpl (hf hfit) (fun q hq => hall q (by simp [hq])) h5
      refine ⟨cs', ?_, h7⟩
      simp only [List.map_cons, Instr.fill, hpl i off K' h3]
      rw [if_neg (by rw [h2]; simp [hl]; omega), fill_step h2 (by omega)]
      exact h6

theorem fieldsB_lt {tys : List (TypeId × TI)} : ∀ {fs : List Field} {ts : List TypeId} {K : Kind} {off i o : Nat} {K' : Kind}, fieldsB tys fs ts K off = true → koff K [.fld i] = some (o, K') → i < ts.length
  | f :: fs, t :: ts, .pair a b, off, i, o, K', hb, hi => by
    simp only [fieldsB, Bool.and_eq_true] at hb
    cases i with
    | zero => simp
    | succ i =>
      simp only [koff, Option.map_eq_some_iff] at hi
      obtain ⟨q, hq, _⟩ := hi
      have := fieldsB_lt (o := q.1) (K' := q.2) hb.2 hq
      simpa using this
  | [], [], .unit, _, _, _, _, _, hi => by simp [koff] at hi
  | [], [], .pair _ _, _, _, _, _, hb, _ => by simp [fieldsB] at hb
  | [], [], .int _, _, _, _, _, hb, _ => by simp [fieldsB] at hb
  | [], [], .bool, _, _, _, _, hb, _ => by simp [fieldsB] at hb
  | [], [], .str, _, _, _, _, hb, _ => by simp [fieldsB] at hb
  | [], [], .opq, _, _, _, _, hb, _ => by simp [fieldsB] at hb
  | [], [], .arr _ _, _, _, _, _, hb, _ => by simp [fieldsB] at hb
  | [], [], .sl _, _, _, _, _, hb, _ => by simp [fieldsB] at hb
  | _ :: _, [], _, _, _, _, _, hb, _ => by simp [fieldsB] at hb
  | [], _ :: _, _, _, _, _, _, hb, _ => by simp [fieldsB] at hb
  | _ :: _, _ :: _, .int _, _, _, _, _, hb, _ => by simp [fieldsB] at hb
  | _ :: _, _ :: _, .bool, _, _, _, _, hb, _ => by simp [fieldsB] at hb
  | _ :: _, _ :: _, .str, _, _, _, _, hb, _ => by simp [fieldsB] at hb
  | _ :: _, _ :: _, .opq, _, _, _, _, hb, _ => by simp [fieldsB] at hb
  | _ :: _, _ :: _, .unit, _, _, _, _, hb, _ => by simp [fieldsB] at hb
  | _ :: _, _ :: _, .arr _ _, _, _, _, _, hb, _ => by simp [fieldsB] at hb
  | _ :: _, _ :: _, .sl _, _, _, _, _, hb, _ => by simp [fieldsB] at hb

theorem fieldsB_places {P : Program} {tys : List (TypeId × TI)} (hs : ∀ (t : TypeId) (j : TI), tys.lookup t = some j → (P.info? t).map (·.size) = some j.K.size) :
    ∀ {fs : List Field} {ts : List TypeId} {K : Kind} {off : Nat}, fieldsB tys fs ts K off = true →
    ∃ pl, fs.mapM (fun f => (P.info? f.type).map fun i => (f.offset, i.size)) = some pl ∧ ∀ i o K', koff K [.fld i] = some (o, K') → pl[i]? = some (off + o, K'.size)
  | f :: fs, t :: ts, .pair a b, off, hb => by
    simp only [fieldsB, Bool.and_eq_true, beq_iff_eq, decide_eq_true_eq] at hb
    obtain ⟨⟨⟨⟨rfl, rfl⟩, hpos⟩, hl⟩, hb⟩ := hb
    obtain ⟨pl, h1, h2⟩ := fieldsB_places hs hb
    cases h : tys.lookup f.type with
    | none => rw [h] at hl; cases hl
    | some j =>
      rw [h] at hl
      have hjK : j.K = a := by simpa using hl
      subst hjK
      obtain ⟨inf, h3, h4⟩ := Option.map_eq_some_iff.1 (hs _ _ h)
      refine ⟨(f.offset, j.K.size) :: pl, by simp [List.mapM_cons, h1, h3, h4], fun i o K' hk => ?_⟩
      cases i with
      | zero => simp [koff, koff_nil] at hk; obtain ⟨rfl, rfl⟩ := hk; rfl
      | succ i =>
        simp only [koff, Option.map_eq_some_iff, Prod.exists, Prod.mk.injEq] at hk
        obtain ⟨o', k', hk, rfl, rfl⟩ := hk
        have := h2 i o' k' hk
        simpa [Nat.add_assoc] using this
  | [], [], .unit, _, _ => ⟨[], rfl, fun i o K' hk => by simp [koff] at hk⟩
  | [], [], .pair _ _, _, hb => by simp [fieldsB] at hb
  | [], [], .int _, _, hb => by simp [fieldsB] at hb
  | [], [], .bool, _, hb => by simp [fieldsB] at hb
  | [], [], .str, _, hb => by simp [fieldsB] at hb
  | [], [], .opq, _, hb => by simp [fieldsB] at hb
  | [], [], .arr _ _, _, hb => by simp [fieldsB] at hb
  | [], [], .sl _, _, hb => by simp [fieldsB] at hb
  | _ :: _, [], _, _, hb => by simp [fieldsB] at hb
  | [], _ :: _, _, _, hb => by simp [fieldsB] at hb
  | _ :: _, _ :: _, .int _, _, hb => by simp [fieldsB] at hb
  | _ :: _, _ :: _, .bool, _, hb => by simp [fieldsB] at hb
  | _ :: _, _ :: _, .str, _, hb => by simp [fieldsB] at hb
  | _ :: _, _ :: _, .opq, _, hb => by simp [fieldsB] at hb
  | _ :: _, _ :: _, .unit, _, hb => by simp [fieldsB] at hb
  | _ :: _, _ :: _, .arr _ _, _, hb => by simp [fieldsB] at hb
  | _ :: _, _ :: _, .sl _, _, hb => by simp [fieldsB] at hb

section
variable {P : Program} {E : Env A} (T : TyOK P E) {o : Oper} {ev : Operand → AV} {sub : List (Nat × Blk)} {fresh : Nat} {k : Cont A} {out : A}

include T in
theorem build_sound {t : TypeId} {ps : Array (Nat × Operand)} (ho : o.op = .build t ps)
    (h : (E.ti t fun i => if i.d.agg then fillK i.K (ps.toList.map fun q => (q.1, nilAs (kat i.K [hopOf i.K q.1]) q.2 (ev q.2))) (.p i.K i.K.zero) (fun v => k v []) else none) = some out) : ∃ v l, k v l = some out ∧ OpSem P o ev sub fresh v l := by
  have mp : ∀ q ∈ ps.toList, q.2 ∈ o.op.operands := fun q hq => by
    simp only [Op.operands, ho]
    simp only [List.mem_toArray, List.mem_map]
    exact ⟨q, hq, rfl⟩
  obtain ⟨i, hi, h⟩ := ti_sound h
  split at h
  · rename_i hd
    obtain ⟨v, h, hf, hs⟩ := fillK_sound h
    obtain ⟨inf, z, hin, hz, hsz, _, _, hzr⟩ := T.zeroInfo hi
    have hfit : (AV.p i.K i.K.zero).fits i.K = true := by simp [AV.fits]
    -- the places
    have hpl : ∃ place : Nat → Option (Nat × Nat), (∀ i' off K', koff i.K [hopOf i.K i'] = some (off, K') → place i' = some (off, K'.size)) ∧ i.K.isAgg = true ∧
        ∀ parts, P.built t parts = Instr.fill place z.cells parts := by
      cases hdd : i.d with
      | array n e =>
        obtain ⟨hu, j, hj, hK, hpos⟩ := T.array hi hdd
        obtain ⟨ie, h3, h4⟩ := Option.map_eq_some_iff.1 (T.size hj)
        refine ⟨fun i => some (i * j.K.size, j.K.size), fun i' off K' hk => ?_, by rw [hK]; rfl, fun parts => by simp [Program.built, hin, hu, hz, h3, h4]⟩
        rw [hK] at hk
        simp only [hopOf, koff] at hk
        split at hk
        · simp [koff_nil] at hk; obtain ⟨rfl, rfl⟩ := hk; rfl
        · cases hk
      | struct ts =>
        obtain ⟨fs, hu, hb⟩ := T.struct hi hdd
        obtain ⟨pl, h1, h2⟩ := fieldsB_places (P := P) (fun t j hj => T.size hj) hb
        have hag : i.K.isAgg = true ∧ ∀ i', hopOf i.K i' = .fld i' := by
          cases hK : i.K <;> rw [hK] at hb <;> first | exact ⟨rfl, fun _ => rfl⟩ | (cases hl : fs.toList <;> cases ts <;> simp [hl, fieldsB] at hb)
        refine ⟨(pl.toArray[·]?), fun i' off K' hk => ?_, hag.1, fun parts => by simp only [Program.built, hin, hu, hz, h1]⟩
        rw [hag.2] at hk
        have := h2 i' off K' hk
        simpa using this
      | _ => rw [hdd] at hd; simp [TD.agg] at hd
    obtain ⟨place, hp1, hag, hp2⟩ := hpl
    refine ⟨_, _, h, opsem_value fun X ac at_ => ?_⟩
    obtain ⟨cs', h1, h2⟩ := hs X ac.eval place z.cells.toList hp1 hfit (fun q hq => nilAs_RS (at_.opr _ (mp q hq))) (hzr X.F X.w)
    have hv := hf hfit
    have hna : v.isAny = false := by
      cases hv' : v.isAny with
      | false => rfl
      | true => cases v <;> first | (cases hv'; done) | (cases hK : i.K <;> rw [hK] at hv hag <;> simp [AV.fits, Kind.isAgg] at hv hag)
    refine ⟨.agg cs'.toArray, ?_, RS.of0 (.inr ⟨cs', h2, .inl ⟨by rw [fits_agg hv hna, hag], rfl⟩⟩) (fits_noTup hv)⟩
    have hb := run_build X.w t (ps.map fun q => (q.1, ac.eval q.2)) cs'.toArray (by rw [hp2]; simpa using h1)
    simp [execOp, ho, hb]
  · cases h

end
end Go.Ev
end

section
/-
  THE EVALUATOR's OPERATIONS ARE THE MODEL's, MORE: maps whose keys are structs and arrays of plain data.
-/
namespace Go.Ev
open Go.ChangeMaps (setBlock)
variable {A : Type}

theorem RP.flat {F F' : Nat → Prop} {w w' : World} : ∀ {K : Kind} {x : K.den} {cs cs' : List Value}, K.flat = true → RP F w K x cs → RP F' w' K x cs' → cs = cs' ∧ ∀ u ∈ cs, ∀ m, Instr.sameBits m u u = true
  | .int _, _, _, _, _, h, h' => by simp [RP] at h h'; subst h; subst h'; exact ⟨rfl, fun u hu m => by simp at hu; subst hu; cases m <;> simp [Instr.sameBits]⟩
  | .bool, _, _, _, _, h, h' => by simp [RP] at h h'; subst h; subst h'; exact ⟨rfl, fun u hu m => by simp at hu; subst hu; cases m <;> simp [Instr.sameBits]⟩
  | .str, x, _, _, _, h, h' => by
    simp [RP] at h h'; subst h; subst h'
    have e : ((x : ByteArray) == x) = true := by obtain ⟨d⟩ := (x : ByteArray); exact beq_self_eq_true d
    exact ⟨rfl, fun u hu m => by simp at hu; subst hu; cases m <;> simp only [Instr.sameBits] <;> exact e⟩
  | .unit, _, _, _, _, h, h' => by simp [RP] at h h'; subst h; subst h'; exact ⟨rfl, fun u hu m => by simp at hu⟩
  | .opq, _, _, _, hf, _, _ => by simp [Kind.flat] at hf
  | .sl _, _, _, _, hf, _, _ => by simp [Kind.flat] at hf
  | .pair a b, _, _, _, hf, h, h' => by
    simp only [Kind.flat, Bool.and_eq_true] at hf
    obtain ⟨c1, c2, rfl, h1, h2⟩ := h
    obtain ⟨d1, d2, rfl, g1, g2⟩ := h'
    obtain ⟨rfl, q1⟩ := RP.flat hf.1 h1 g1
    obtain ⟨rfl, q2⟩ := RP.flat hf.2 h2 g2
    exact ⟨rfl, fun u hu => by rcases List.mem_append.1 hu with hu | hu; exact q1 u hu; exact q2 u hu⟩
  | .arr n e, l, _, _, hf, h, h' => by
    simp only [Kind.flat] at hf
    obtain ⟨hl, css, rfl, h1⟩ := h
    obtain ⟨hl', css', rfl, h1'⟩ := h'
    have key : ∀ {l : List e.den} {css css' : List (List Value)}, All2 (RP F w e) l css → All2 (RP F' w' e) l css' → css = css' ∧ ∀ c ∈ css, ∀ u ∈ c, ∀ m, Instr.sameBits m u u = true := fun {l css css'} h1 => by
      induction h1 generalizing css' with
      | nil => intro h2; cases h2; exact ⟨rfl, by simp⟩
      | cons a _ ih =>
        intro h2
        cases h2 with
        | cons b h2 =>
          obtain ⟨rfl, q⟩ := ih h2
          obtain ⟨rfl, q'⟩ := RP.flat hf a b
          exact ⟨rfl, fun c hc => by rcases List.mem_cons.1 hc with rfl | hc; exact q'; exact q c hc⟩
    obtain ⟨rfl, q⟩ := key h1 h1'
    exact ⟨rfl, fun u hu => by obtain ⟨c, hc, hu⟩ := List.mem_flatten.1 hu; exact q c hc u hu⟩

theorem born_modify (f : MapEntry → MapEntry) : ∀ (l : List MapEntry) (j : Nat), (∀ e, (f e).born = e.born) → (l.modify j f).map (·.born) = l.map (·.born)
  | [], j, _ => by cases j <;> rfl
  | e :: l, 0, h => by simp [h]
  | e :: l, j + 1, h => by simp [born_modify f l j h]

theorem mset_mset {K : Kind} {V : Type} : ∀ (es : List (K.den × V)) (x : K.den) (a v : V), mset K (mset K es x a) x v = mset K es x v
  | [], x, a, v => by simp [mset]
  | e :: r, x, a, v => by
    by_cases h : e.1 = x
    · simp [mset, h]
    · simp [mset, h, mset_mset r x a v]

theorem sameBits_agg {cs : List Value} (h : ∀ u ∈ cs, ∀ m, Instr.sameBits m u u = true) (m : Nat) : Instr.sameBits (m + 1) (.agg cs.toArray) (.agg cs.toArray) = true := by
  simp only [Instr.sameBits, beq_self_eq_true, Bool.true_and, List.all_eq_true]
  intro q hq
  have : q.1 = q.2 ∧ q.1 ∈ cs := by
    obtain ⟨i, hi⟩ := List.mem_iff_getElem?.1 hq
    simp only [List.getElem?_zip_eq_some] at hi
    obtain ⟨h1, h2⟩ := hi
    rw [h1] at h2
    exact ⟨Option.some.inj h2, List.mem_iff_getElem?.2 ⟨i, h1⟩⟩
  obtain ⟨x, y⟩ := q
  simp only at this ⊢
  rw [← this.1]; exact h x this.2 m

section
variable {P : Program} {E : Env A} (T : TyOK P E) {X : Cx}

include T in
theorem check_sound (em : Bool) : ∀ (m : Nat) (t : TypeId) (i : TI), E.ty.lookup t = some i → P.keyTypeAt m t = true → ∀ (d : Nat) (x : i.K.den) (a : Value) (w : World),
    RS0 X (.p i.K x) a → (Instr.checkKey em (d + m) t a).run P w = .ok () w
  | 0, _, _, _, hk => by simp [Program.keyTypeAt] at hk
  | m + 1, t, i, hi, hk => by
    intro d x a w ha
    obtain ⟨ds, hu, hd⟩ := T.desc hi
    obtain ⟨K, td, by', cm⟩ := i
    simp only at x ha hd
    simp only [Program.keyTypeAt, hu] at hk
    obtain ⟨c1, r1, v1⟩ := ha.data
    cases ds with
    | bool => simp [Instr.checkKey, run_underlying hu]
    | int k => simp [Instr.checkKey, run_underlying hu]
    | string => simp [Instr.checkKey, run_underlying hu]
    | array n e =>
      cases td <;> cases K <;> simp at hd
      rename_i n' e' n'' Ke
      obtain ⟨⟨⟨rfl, rfl⟩, rfl⟩, hd⟩ := hd
      obtain ⟨j, hj, hjK⟩ : ∃ j, E.ty.lookup e = some j ∧ j.K = Ke := by
        cases h : E.ty.lookup e with
        | none => rw [h] at hd; simp at hd
        | some j => rw [h] at hd; simp at hd; exact ⟨j, rfl, hd.1⟩
      subst hjK
      obtain ⟨hl1, css1, rfl, q1⟩ := r1
      have h1 := v1.elim (·.2) fun h => absurd h.1 (by simp [Kind.isAgg])
      subst h1
      have IH := check_sound em m e j hj hk d
      rw [show d + (m + 1) = (d + m) + 1 from rfl, Instr.checkKey]
      simp only [Sem.run_bind, run_underlying hu, Result.andThen_ok]
      simp only [Std.Legacy.Range.forIn_eq_forIn_range', Std.Legacy.Range.size, Nat.sub_zero, Nat.add_one_sub_one, Nat.div_one]
      have each : ∀ i ∈ List.range' 0 n, ∃ v y, (part e css1.flatten.toArray (i * j.K.size)).run P w = .ok v w ∧ RS0 X (.p j.K y) v := fun i hi => by
        have hi : i < n := by simpa using hi
        obtain ⟨y, hy⟩ : ∃ y, x[i]? = some y := ⟨x[i]'(by omega), List.getElem?_eq_getElem _⟩
        obtain ⟨c, hc, hrc⟩ := q1.get hy
        have hlen := RP.length hrc
        have e1 := flatten_cut q1.lens hc (o := 0) (n := j.K.size) (by omega)
        rw [Nat.add_zero, cut_all c hlen.symm] at e1
        obtain ⟨v, h7, h8⟩ := part_sound T hj (X := X) (y := .p j.K y) (cs := css1.flatten) (off := i * j.K.size) (by simp [AV.fits]) (by rw [e1]; exact hrc) w
        exact ⟨v, y, h7, h8⟩
      generalize List.range' 0 n = is at each
      induction is with
      | nil => simp
      | cons q is ih =>
        obtain ⟨v, y, p1, f1⟩ := each q (by simp)
        have p2 := IH y v w f1
        simp only [List.forIn_cons, Sem.run_bind, T.runSize hj w, Result.andThen_ok, p1, p2, Sem.run_pure]
        exact ih (fun y hy => each y (by simp [hy]))
    | struct fs =>
      simp only [Bool.and_eq_true, Bool.not_eq_true'] at hk
      cases td with
      | struct ts =>
        have hd : fieldsB E.ty fs.toList ts K 0 = true := hd
        have hag : K.isAgg = true := by
          cases hf : fs.toList <;> cases ts <;> cases K <;> simp [hf, fieldsB] at hd <;> rfl
        have h1 := v1.elim (·.2) fun h => absurd h.1 (by rw [hag]; simp)
        subst h1
        rw [show d + (m + 1) = (d + m) + 1 from rfl, Instr.checkKey]
        simp only [Sem.run_bind, run_underlying hu, Result.andThen_ok]
        rw [← Array.forIn_toList]
        have deep : ∀ f ∈ fs.toList, f.name ≠ "_" ∧ P.keyTypeAt m f.type = true := fun f hf => by
          have := Array.all_eq_true_iff_forall_mem.1 hk.1.1 f (Array.mem_toList_iff.1 hf)
          simp only [Bool.and_eq_true, bne_iff_ne, ne_eq] at this
          exact ⟨this.1, this.2⟩
        have each : ∀ f ∈ fs.toList, ∃ j, E.ty.lookup f.type = some j ∧ ∃ v y, (part f.type c1.toArray f.offset).run P w = .ok v w ∧ RS0 X (.p j.K y) v := by
          have gen : ∀ (fs : List Field) (ts : List TypeId) (K : Kind) (x : K.den) (off : Nat) (pre cs : List Value), fieldsB E.ty fs ts K off = true → pre.length = off → RP X.F X.w K x cs →
              ∀ f ∈ fs, ∃ j, E.ty.lookup f.type = some j ∧ ∃ v y, (part f.type (pre ++ cs).toArray f.offset).run P w = .ok v w ∧ RS0 X (.p j.K y) v := by
            intro fs
            induction fs with
            | nil => intro ts K x off pre cs _ _ _ f hf; cases hf
            | cons f fs ih =>
              intro ts K x off pre cs hb hp hr g hg
              cases ts with
              | nil => simp [fieldsB] at hb
              | cons t ts =>
                cases K with
                | pair a b =>
                  simp only [fieldsB, Bool.and_eq_true, beq_iff_eq, decide_eq_true_eq] at hb
                  obtain ⟨⟨⟨⟨rfl, hoff⟩, hpos⟩, hl⟩, hb⟩ := hb
                  obtain ⟨d1, d2, rfl, r1, r2⟩ := hr
                  cases h : E.ty.lookup f.type with
                  | none => rw [h] at hl; cases hl
                  | some j =>
                    rw [h] at hl
                    have hjK : j.K = a := by simpa using hl
                    subst hjK
                    rcases List.mem_cons.1 hg with rfl | hg
                    · refine ⟨j, h, ?_⟩
                      have hlen := RP.length r1
                      obtain ⟨v, h7, h8⟩ := part_sound T h (X := X) (y := .p j.K x.1) (cs := pre ++ (d1 ++ d2)) (off := g.offset) (by simp [AV.fits]) (by
                        rw [hoff, ← hp, show pre.length = pre.length + 0 from rfl, cut_append_right, cut_append_left (by omega), cut_all _ hlen.symm]; exact r1) w
                      exact ⟨v, x.1, h7, h8⟩
                    · have := ih ts b x.2 (off + j.K.size) (pre ++ d1) d2 hb (by simp [hp, RP.length r1]) r2 g hg
                      simpa using this
                | _ => simp [fieldsB] at hb
          exact fun f hf => by simpa using gen fs.toList ts K x 0 [] c1 hd rfl r1 f hf
        generalize fs.toList = L at each deep
        clear hd
        induction L with
        | nil => simp
        | cons f L ih =>
          obtain ⟨j, hj, v, y, p1, f1⟩ := each f (by simp)
          obtain ⟨hn, hp⟩ := deep f (by simp)
          have p2 := check_sound em m f.type j hj hp d y v w f1
          simp only [List.forIn_cons, Sem.run_bind, hn, ne_eq, not_false_eq_true, if_true, Result.andThen_ok, p1, p2, Sem.run_pure]
          exact ih (fun y hy => each y (by simp [hy])) (fun y hy => deep y (by simp [hy]))
      | prim => cases K <;> simp at hd
      | slice _ => cases K <;> simp at hd
      | array _ _ => cases K <;> simp at hd
      | map _ _ => cases K <;> simp at hd
      | ptr _ => cases K <;> simp at hd
      | other => cases K <;> simp at hd
    | _ => simp at hk

/-- The evaluator's map against the model's search. -/
theorem find_sound (hT : TyOK P E) {kt : TypeId} {i : TI} (hi : E.ty.lookup kt = some i) (hk : P.keyTypeAt 100 kt = true) {x : i.K.den} {a : Value} (ha : RS0 X (.p i.K x) a) (w : World) {V : Kind} :
    ∀ (es : List (i.K.den × V.den)) (mes : List MapEntry), All2 (fun e (me : MapEntry) => RS0 X (.p i.K e.1) me.key ∧ RS0 X (.p V e.2) me.val) es mes → ∀ start, ∃ r, (Instr.findAsking kt a mes start).run P w = .ok r w ∧
      ((r = none ∧ mget i.K es x = none ∧ (∀ v : V.den, mset i.K es x v = es ++ [(x, v)]) ∧ mdel i.K es x = es) ∨
       ∃ j e me, r = some (start + j, me.val) ∧ es[j]? = some e ∧ mes[j]? = some me ∧ e.1 = x ∧ mget i.K es x = some e.2 ∧ (∀ v : V.den, mset i.K es x v = es.set j (x, v)) ∧ mdel i.K es x = es.eraseIdx j) := by
  intro es mes h
  induction h with
  | nil => exact fun start => ⟨none, by simp [Instr.findAsking], .inl ⟨rfl, rfl, fun _ => rfl, rfl⟩⟩
  | @cons e me es mes h1 h2 ih =>
    intro start
    obtain ⟨r, hr, hiff⟩ := equalIn_sound hT 100 kt i hi hk 9900 x e.1 a me.key w ha h1.1
    have hr' : (Op.equal kt a me.key).run P w = .ok r w := hr
    have hd : @decide (e.1 = x) (i.K.dec e.1 x) = r := dec_eq (hiff.trans ⟨Eq.symm, Eq.symm⟩)
    cases r with
    | true =>
      have hx : e.1 = x := (hiff.1 rfl).symm
      exact ⟨some (start, me.val), by simp [Instr.findAsking, hr'], .inr ⟨0, e, me, rfl, rfl, rfl, hx, by simp [mget, hx], fun v => by simp [mset, hx], by simp [mdel, hx]⟩⟩
    | false =>
      have hx : e.1 ≠ x := fun h => by have := hiff.2 h.symm; cases this
      obtain ⟨r, h3, h4⟩ := ih (start + 1)
      refine ⟨r, by simp [Instr.findAsking, hr', h3], ?_⟩
      rcases h4 with ⟨rfl, g1, g2, g3⟩ | ⟨j, e', me', rfl, g1, g2, g3, g4, g5, g6⟩
      · exact .inl ⟨rfl, by simp [mget, hx, g1], fun v => by simp [mset, hx, g2 v], by simp [mdel, hx, g3]⟩
      · exact .inr ⟨j + 1, e', me', by rw [show start + 1 + j = start + (j + 1) by omega], by simpa using g1, by simpa using g2, g3, by simp [mget, hx, g4], fun v => by simp [mset, hx, g5 v], by simp [mdel, hx, g6]⟩

theorem kv_sound {out : A} {t : TypeId} {k : Kind → Kind → Option A} (h : E.kv t k = some out) : ∃ i a b ia ib, E.ty.lookup t = some i ∧ i.d = .map a b ∧ E.ty.lookup a = some ia ∧ E.ty.lookup b = some ib ∧ ia.cmp = true ∧ ia.K.isAgg = true ∧ ia.K.flat = true ∧ k ia.K ib.K = some out := by
  unfold Env.kv at h
  obtain ⟨i, hi, h⟩ := ti_sound h
  split at h
  · rename_i a b hd
    obtain ⟨ia, hia, h⟩ := ti_sound h
    obtain ⟨ib, hib, h⟩ := ti_sound h
    split at h
    · rename_i hc
      simp only [Bool.and_eq_true] at hc
      exact ⟨i, a, b, ia, ib, hi, hd, hia, hib, hc.1.1, hc.1.2, hc.2, h⟩
    · cases h
  · cases h

include T in
theorem TyOK.wide {t : TypeId} {i : TI} (hi : E.ty.lookup t = some i) (ha : i.K.isAgg = true) : (match P.underlying t with | some (.array _ _) | some (.struct _) => true | _ => false) = true := by
  obtain ⟨d, h1, h2⟩ := T.desc hi
  obtain ⟨K, td, by', cm⟩ := i
  rw [h1]
  cases d <;> first | rfl | (cases td <;> cases K <;> simp [Kind.isAgg] at h2 ha)

end

section
variable {P : Program} {E : Env A} (T : TyOK P E) {o : Oper} {ev : Operand → AV} {sub : List (Nat × Blk)} {fresh : Nat} {k : Cont A} {out : A}

include T in
theorem makeMap_sound {t : TypeId} {r : Option Operand} (h : (match r with | none => makeMapK E t fresh k | some x => asInt (ev x) fun _ => makeMapK E t fresh k) = some out) (ho : o.op = .makeMap t r) : ∃ v l, k v l = some out ∧ OpSem P o ev sub fresh v l := by
  have key : makeMapK E t fresh k = some out → (∀ (ac : Act) (X : Cx), At X ac o ev sub → r = none ∨ ∃ x q n, r = some x ∧ ac.eval x = .int q n) → ∃ v l, k v l = some out ∧ OpSem P o ev sub fresh v l := fun h hr => by
    obtain ⟨i, a, b, ia, ib, hi, hd, hia, hib, _, _, _, h⟩ := kv_sound h
    have hu := T.map hi hd
    refine ⟨_, _, h, opsem_new fun X ac at_ _ => ⟨.map (some X.w.heap.size), some X.w.heap.size, X.w.alloc (.map #[] 0), ?_, rfl, rfl, rfl, by simp, fun n hn => heap_alloc_old X.w _ hn, fun n hn => (Option.some.inj hn) ▸ Nat.le_refl _, fun Y hY W H => ?_⟩⟩
    · rcases hr ac X at_ with rfl | ⟨x, q, n, rfl, hx⟩
      · simp [execOp, ho, Instr.makeMap]
      · simp [execOp, ho, Instr.makeMap, run_underlying hu, hx, Go.asInt, asIntOf]
    · subst hY
      have hg : (hpSet X.hp fresh (.map ia.K ib.K []))[fresh]? = some (.map ia.K ib.K []) := hpSet_same ..
      exact ⟨⟨X.w.heap.size, #[], 0, upd_same .., heap_alloc_new X.w _, .nil, .nil _⟩, (RS.one (by simp) (by simp) (by simp) (by simp)).2 ((R1_mp hg).2 ⟨X.w.heap.size, upd_same .., rfl⟩)⟩
  cases r with
  | none => exact key h fun _ _ _ => .inl rfl
  | some x =>
    obtain ⟨q, n, ex, h⟩ := asInt_sound h
    refine key h fun ac X at_ => .inr ⟨x, q, n, rfl, ?_⟩
    have := at_.opr x (by simp [Op.operands, ho])
    rw [ex, RS.int] at this; exact this

include T in
theorem lookup_sound {t : TypeId} {m x : Operand} {ok : Bool} (ho : o.op = .lookup t m x ok) (h : lookupK E t sub (ev m) (ev x) ok (fun v => k v []) = some out) : ∃ v l, k v l = some out ∧ OpSem P o ev sub fresh v l := by
  have mm : m ∈ o.op.operands := by simp [Op.operands, ho]
  have mx : x ∈ o.op.operands := by simp [Op.operands, ho]
  obtain ⟨i, a, b, ia, ib, hi, hd, hia, hib, hcmp, hagg, hflat, h⟩ := kv_sound h
  have hu := T.map hi hd
  have hk := (T.cmp hia hcmp).1
  split at h
  · rename_i id KK' y em ex
    obtain ⟨B, hB, h⟩ := look_sound h
    split at h
    · rename_i KK KV es
      split at h
      · rename_i hKK; subst hKK
        split at h
        · rename_i hKK; subst hKK
          split at h
          · rename_i hKV; subst hKV
            refine ⟨_, _, h, opsem_value fun X ac at_ => ?_⟩
            have h1 := at_.opr m mm; rw [em] at h1
            have h2 := (at_.opr x mx).to0 (by rw [ex]; simp)
            rw [ex] at h2
            have hX := at_.sub _ _ hB
            obtain ⟨b', h3, h4⟩ := (R1_mp hX).1 ((RS.one (by simp) (by simp) (by simp) (by simp)).1 h1)
            obtain ⟨b'', mes, clock, h5, h6, h7, hbo⟩ := at_.ok.blk _ _ hX
            rw [h3] at h5; cases h5
            obtain ⟨r, h8, h9⟩ := find_sound T hia hk h2 X.w es mes.toList h7 0
            have hck := check_sound T mes.isEmpty 100 a ia hia hk 9900 y _ X.w h2
            have hck' : (Instr.checkKey mes.isEmpty 10000 a (ac.eval x)).run P X.w = .ok () X.w := hck
            have hfk : (Instr.findKey a (ac.eval x) mes.toList).run P X.w = .ok r X.w := by rw [run_findKey_eq X.w (T.wide hia hagg)]; exact h8
            obtain ⟨z, hz, hzr, _⟩ := T.zero hib X.w X
            have hgo : (getObj b').run P X.w = .ok (.map mes clock) X.w := by simp [getObj, Sem.run, h6]
            have fin : ∀ (u : Value) (y' : ib.K.den) (s : Bool), RS0 X (.p ib.K y') u → ((mget ia.K es y).getD ib.K.zero = y') → (mget ia.K es y).isSome = s → (execOp ac.eval o).run P X.w = .ok (.value (if ok then .tuple #[u, .bool s] else u)) X.w →
                ∃ u, (execOp ac.eval o).run P X.w = .ok (.value u) X.w ∧ RS X (if ok then .tup [.p ib.K ((mget ia.K es y).getD ib.K.zero), .p .bool (mget ia.K es y).isSome] else .p ib.K ((mget ia.K es y).getD ib.K.zero)) u := fun u y' s g1 g2 g3 g4 => by
              refine ⟨_, g4, ?_⟩
              rw [g2, g3]
              cases ok
              · exact RS.of0 g1 (by simp)
              · exact ⟨_, rfl, .cons g1 (.cons ((RS.bool.2 rfl : RS X (.p .bool s) _).to0 (by simp)) .nil)⟩
            rcases h9 with ⟨rfl, g1, _, _⟩ | ⟨j, e, me, rfl, g1, g2, g3, g4, _, _⟩
            · refine fin z _ false hzr (by rw [g1]; rfl) (by rw [g1]; rfl) ?_
              cases ok <;> simp [execOp, ho, Instr.lookup, run_underlying hu, h4, hgo, hck', hfk, hz]
            · obtain ⟨e', q1, q2⟩ := h7.get' g2
              rw [g1] at q1; cases q1
              refine fin me.val e.2 true q2.2 (by rw [g4]; rfl) (by rw [g4]; rfl) ?_
              cases ok <;> simp [execOp, ho, Instr.lookup, run_underlying hu, h4, hgo, hck', hfk]
          · cases h
        · cases h
      · cases h
    · cases h
  · cases h

include T in
theorem mapUpdate_sound {t : TypeId} {m x v : Operand} (ho : o.op = .mapUpdate t m x v ∨ o.op = .insert t m x v) (h : mapUpdateK E t sub (ev m) (ev x) (ev v) (fun l => k .any l) = some out) : ∃ v l, k v l = some out ∧ OpSem P o ev sub fresh v l := by
  have mm : m ∈ o.op.operands := by rcases ho with ho | ho <;> simp [Op.operands, ho]
  have mx : x ∈ o.op.operands := by rcases ho with ho | ho <;> simp [Op.operands, ho]
  have mv : v ∈ o.op.operands := by rcases ho with ho | ho <;> simp [Op.operands, ho]
  obtain ⟨i, a, b, ia, ib, hi, hd, hia, hib, hcmp, hagg, hflat, h⟩ := kv_sound h
  have hu := T.map hi hd
  have hk := (T.cmp hia hcmp).1
  split at h
  · rename_i id KK' y KV' z em ex ez
    obtain ⟨B, hB, h⟩ := look_sound h
    split at h
    · rename_i KK KV es
      split at h
      · rename_i hKK; subst hKK
        split at h
        · rename_i hKV; subst hKV
          split at h
          · rename_i hKK; subst hKK
            refine ⟨_, _, h, opsem_write hB rfl rfl (.map ..) fun X ac at_ => ?_⟩
            have h1 := at_.opr m mm; rw [em] at h1
            have h2 := (at_.opr x mx).to0 (by rw [ex]; simp)
            rw [ex] at h2
            have hv := (at_.opr v mv).to0 (by rw [ez]; simp)
            rw [ez] at hv
            have hX := at_.sub _ _ hB
            obtain ⟨b', h3, h4⟩ := (R1_mp hX).1 ((RS.one (by simp) (by simp) (by simp) (by simp)).1 h1)
            obtain ⟨b'', mes, clock, h5, h6, h7, hbo⟩ := at_.ok.blk _ _ hX
            rw [h3] at h5; cases h5
            obtain ⟨r, h8, h9⟩ := find_sound T hia hk h2 X.w es mes.toList h7 0
            have hck' : (Instr.checkKey false 10000 a (ac.eval x)).run P X.w = .ok () X.w := check_sound T false 100 a ia hia hk 9900 y _ X.w h2
            have hfk : (Instr.findKey a (ac.eval x) mes.toList).run P X.w = .ok r X.w := by rw [run_findKey_eq X.w (T.wide hia hagg)]; exact h8
            have hgo : (getObj b').run P X.w = .ok (.map mes clock) X.w := by simp [getObj, Sem.run, h6]
            have hlt : b' < X.w.heap.size := (Array.getElem?_eq_some_iff.1 h6).1
            have fin : ∀ (mes' : Array MapEntry) (clock' : Nat), All2 (fun e (me : MapEntry) => RS0 X (.p ia.K e.1) me.key ∧ RS0 X (.p KV' e.2) me.val) (mset ia.K es y z) mes'.toList → BornOK mes'.toList clock' →
                (execOp ac.eval o).run P X.w = .ok .skip (setBlock X.w b' (.map mes' clock')) →
                ∃ (r : Next) (u : Value) (n : Nat) (w' : World), (execOp ac.eval o).run P X.w = .ok r w' ∧ (r = .value u ∨ (r = .skip ∧ u = undef)) ∧ X.ρ id = some n ∧
                w'.os = X.w.os ∧ w'.tape = X.w.tape ∧ w'.output = X.w.output ∧ X.w.heap.size ≤ w'.heap.size ∧ (∀ k, k < X.w.heap.size → k ≠ n → w'.heap[k]? = X.w.heap[k]?) ∧
                (∀ (c : Array Value) (e : TypeId) (f : Nat × Nat), X.w.heap[n]? = some (Obj.cells c e f) → ∃ c' : Array Value, w'.heap[n]? = some (Obj.cells c' e f) ∧ c'.size = c.size) ∧
                ∀ Y : Cx, Y = ⟨X.ρ, hpSet X.hp id (.map ia.K KV' (mset ia.K es y z)), X.F, w'⟩ → WEvo X Y → HEvo X Y → RB Y id (.map ia.K KV' (mset ia.K es y z)) ∧ RS Y .any u := by
              intro mes' clock' g1 hbo' g2
              refine ⟨.skip, undef, b', setBlock X.w b' (.map mes' clock'), g2, .inr ⟨rfl, rfl⟩, h3, rfl, rfl, rfl, by simp [setBlock], fun q _ hq => by simp [setBlock, Array.getElem?_setIfInBounds, Ne.symm hq], fun c e f hc => (by rw [h6] at hc; cases hc), fun Y hY W H => ?_⟩
              subst hY
              have hn : (setBlock X.w b' (.map mes' clock')).heap[b']? = some (.map mes' clock') := by simp [setBlock, Array.getElem?_setIfInBounds, hlt]
              exact ⟨⟨b', mes', clock', h3, hn, g1.imp fun _ _ _ _ hr => ⟨hr.1.evo W H at_.ok.fo, hr.2.evo W H at_.ok.fo⟩, hbo'⟩, RS.any _⟩
            have hso : ∀ o', (setObj b' o').run P X.w = .ok () (setBlock X.w b' o') := fun o' => Go.MapKept.run_setObj_map o' h6
            rcases h9 with ⟨rfl, _, g2, _⟩ | ⟨j, e, me, rfl, g1, g2, g3, _, g5, _⟩
            · refine fin (mes.push ⟨ac.eval x, ac.eval v, clock⟩) (clock + 1) (by rw [g2, Array.toList_push]; exact h7.append (.cons ⟨h2, hv⟩ .nil)) (by rw [Array.toList_push]; exact hbo.push _ _) ?_
              rcases ho with ho | ho <;> simp [execOp, ho, Instr.mapUpdate, run_underlying hu, h4, hgo, hck', hfk, hso]
            · obtain ⟨e', q1, q2⟩ := h7.get' g2
              rw [g1] at q1; cases q1
              rw [g3] at q2
              obtain ⟨c1, r1, v1⟩ := h2.data
              obtain ⟨c2, r2, v2⟩ := q2.1.data
              obtain ⟨rfl, hsb⟩ := RP.flat hflat r1 r2
              have e1 := v1.elim (·.2) fun h => absurd h.1 (by rw [hagg]; simp)
              have e2 := v2.elim (·.2) fun h => absurd h.1 (by rw [hagg]; simp)
              have hks : (Instr.keyThatStays me.key (ac.eval x)).run P X.w = .ok (ac.eval x) X.w := by
                rw [e1, e2]; simp [Instr.keyThatStays, sameBits_agg hsb 9999]
              have hme : mes[j]? = some me := by rw [← Array.getElem?_toList]; exact g2
              refine fin (mes.modify j fun e => { e with key := ac.eval x, val := ac.eval v }) clock ?_ (hbo.same (by rw [Array.toList_modify]; exact born_modify _ _ _ fun _ => rfl)) ?_
              · rw [g5]
                refine All2.of_get (by simpa using h7.length) fun i q mq hq hmq => ?_
                rw [Array.toList_modify, List.getElem?_modify] at hmq
                by_cases hij : j = i
                · subst hij
                  rw [g2] at hmq
                  simp at hmq
                  have : (es.set j (y, z))[j]? = some (y, z) := by rw [List.getElem?_set_self (List.getElem?_eq_some_iff.1 g1).1]
                  rw [this] at hq; cases hq
                  subst hmq
                  exact ⟨h2, hv⟩
                · rw [List.getElem?_set_ne hij] at hq
                  obtain ⟨mq', s1, s2⟩ := h7.get hq
                  rw [s1] at hmq
                  simp [hij] at hmq
                  subst hmq; exact s2
              · rcases ho with ho | ho <;> simp [execOp, ho, Instr.mapUpdate, run_underlying hu, h4, hgo, hck', hfk, hme, hks, hso]
          · cases h
        · cases h
      · cases h
    · cases h
  · cases h

end
end Go.Ev
end

section
/-
  THE EVALUATOR's OPERATIONS ARE THE MODEL's, MORE: slices built of parts, and made.
-/
namespace Go.Ev
variable {A : Type}

theorem fillRow_sound {ev : Operand → AV} {out : A} {n : Nat} {e : Kind} : ∀ {ps : List (Nat × Operand)} {l : List e.den} {k : List e.den → Option A}, fillRow n e (ps.map fun q => (q.1, ev q.2)) l k = some out → l.length = n →
    ∃ l', k l' = some out ∧ l'.length = n ∧ ∀ (X : Cx) (g : Operand → Value) (css : List (List Value)), (∀ q ∈ ps, RS X (ev q.2) (g q.2)) → All2 (RP X.F X.w e) l css →
      ∃ css', Instr.fill (fun i => some (i * e.size, e.size)) css.flatten.toArray (ps.map fun q => (q.1, g q.2)) = some css'.flatten.toArray ∧ All2 (RP X.F X.w e) l' css'
  | [], l, k, h, hl => ⟨l, h, hl, fun X g css _ hr => ⟨css, rfl, hr⟩⟩
  | (i, x) :: ps, l, k, h, hl => by
    simp only [List.map_cons, fillRow] at h
    obtain ⟨z, ez, hi, h⟩ := setIn_sound h
    obtain ⟨l', h, hl', hs⟩ := fillRow_sound h (by simpa using hl)
    refine ⟨l', h, hl', fun X g css hall hr => ?_⟩
    have hx := (hall (i, x) (by simp)).to0 (by simp only [ez]; simp)
    simp only [ez] at hx
    obtain ⟨vc, h1, h2⟩ := hx.cells (by simp [AV.isAny])
    have h1 : RP X.F X.w e z vc := h1
    have hvl := RP.length h1
    obtain ⟨c, hc, hrc⟩ := hr.get (show l[i]? = some (l[i]'(by omega)) from List.getElem?_eq_getElem _)
    have hcl := RP.length hrc
    have hfl : css.flatten.length = css.length * e.size := flatten_length hr.lens
    have hle : i * e.size + vc.length ≤ css.flatten.length := by
      rw [hfl, ← hr.length, hl, hvl, ← Nat.succ_mul]; exact Nat.mul_le_mul_right _ hi
    obtain ⟨css', h3, h4⟩ := hs X g (css.set i vc) (fun q hq => hall q (by simp [hq])) (hr.set i h1)
    refine ⟨css', ?_, h4⟩
    have hsp := flatten_splice hr.lens hc (v := vc) (o := 0) (by omega)
    rw [Nat.add_zero, splice_all (by omega)] at hsp
    simp only [List.map_cons, Instr.fill]
    have hvs : (g x).cells.size = e.size := by rw [h2]; simpa using hvl
    rw [if_neg (by rw [hvs]; rw [hvl] at hle; simp only [List.size_toArray, ne_eq, not_true_eq_false, gt_iff_lt, decide_false, Bool.false_or, decide_eq_true_eq]; exact Nat.not_lt.2 hle), fill_step h2 hle, hsp]
    exact h3

theorem zeros_flat (zs : List Value) (n : Nat) : (Array.range (n * zs.length)).map (fun i => zs.toArray[i % zs.toArray.size]!) = (List.replicate n zs).flatten.toArray := by
  apply Array.ext'
  simp only [Array.toList_map, Array.toList_range, List.toList_toArray, List.size_toArray]
  induction n with
  | zero => simp
  | succ n ih =>
    rw [Nat.succ_mul, List.range_add, List.map_append, ih, List.replicate_succ', List.flatten_append]
    congr 1
    simp only [List.map_map, List.flatten_cons, List.flatten_nil, List.append_nil]
    refine List.ext_getElem (by simp) fun j h1 h2 => ?_
    simp only [List.length_map, List.length_range] at h1
    simp [Nat.mul_add_mod_self_right, Nat.add_comm, Nat.mod_eq_of_lt h1, h1]

section
variable {P : Program} {E : Env A} (T : TyOK P E) {o : Oper} {ev : Operand → AV} {sub : List (Nat × Blk)} {fresh : Nat} {k : Cont A} {out : A}

include T in
theorem buildSlice_sound {t : TypeId} {n : Nat} {ps : Array (Nat × Operand)} (ho : o.op = .buildSlice t n ps)
    (h : (E.ti t fun i => match i.d with
      | .slice e => E.ti e fun j => if n * j.K.size ≤ 16777216 then fillRow n j.K (ps.toList.map fun q => (q.1, ev q.2)) (List.replicate n j.K.zero) fun l => k (.row fresh) [(fresh, .row e j.K l)] else none
      | _ => none) = some out) : ∃ v l, k v l = some out ∧ OpSem P o ev sub fresh v l := by
  have mp : ∀ q ∈ ps.toList, q.2 ∈ o.op.operands := fun q hq => by
    simp only [Op.operands, ho]
    simp only [List.mem_toArray, List.mem_map]
    exact ⟨q, hq, rfl⟩
  obtain ⟨i, hi, h⟩ := ti_sound h
  split at h
  · rename_i e hd
    obtain ⟨j, hj, h⟩ := ti_sound h
    obtain ⟨hu, j', hj', hK, hpos, _⟩ := T.slice hi hd
    rw [hj] at hj'; cases hj'
    split at h
    · rename_i hsz
      obtain ⟨l', h, hl', hs⟩ := fillRow_sound h (by simp)
      obtain ⟨inf, z, hin, hz, hszz, _, hcs, hzr⟩ := T.zeroInfo hj
      refine ⟨_, _, h, opsem_new fun X ac at_ _ => ?_⟩
      obtain ⟨css, h1, h2⟩ := hs X ac.eval (List.replicate n z.cells.toList) (fun q hq => at_.opr _ (mp q hq)) (All2.replicate (hzr X.F X.w) n)
      have hlen : css.flatten.length = n * j.K.size := by rw [flatten_length h2.lens, ← h2.length, hl']
      have hzl : z.cells.toList.length = j.K.size := by simpa using hcs
      refine ⟨.slice (some ⟨X.w.heap.size, 0, none⟩) n n, some X.w.heap.size, X.w.alloc (.cells css.flatten.toArray e), ?_, rfl, rfl, rfl, by simp, fun q hq => heap_alloc_old X.w _ hq, fun q hq => (Option.some.inj hq) ▸ Nat.le_refl _, fun Y hY W H => ?_⟩
      · have hnot : ¬ 2 ^ 24 < n * j.K.size := by omega
        have hzrun : (zeroValue e).run P X.w = .ok z X.w := by simp [zeroValue, typeInfo, hin, hz]
        have hzf := zeros_flat z.cells.toList n
        rw [hzl] at hzf
        simp only [Array.toArray_toList] at hzf
        have h1' : Instr.fill (fun i => some (i * j.K.size, j.K.size)) (List.replicate n z.cells.toList).flatten.toArray (ps.map fun q => (q.1, ac.eval q.2)).toList = some css.flatten.toArray := by rw [← h1, Array.toList_map]
        by_cases h0 : n = 0
        · subst h0
          have hr : (Instr.buildSlice t 0 (ps.map fun q => (q.1, ac.eval q.2))).run P X.w = .ok (.slice (some ⟨X.w.heap.size, 0, none⟩) 0 0) (X.w.alloc (.cells css.flatten.toArray e)) := by
            simp only [Instr.buildSlice, Sem.run_bind, run_underlying hu, T.runSize hj X.w, Result.andThen_ok, Nat.zero_mul, show ¬ (0 > 2 ^ 24) by decide, if_false, if_true, Sem.run_pure]
            have e1 : (Array.map (fun x => (#[] : Array Value)[x % (#[] : Array Value).size]!) (Array.range 0)) = (List.replicate 0 z.cells.toList).flatten.toArray := by apply Array.ext'; simp
            rw [e1, h1']
            simp [newRow]
          simp only [execOp, ho, Sem.run_bind, hr, Result.andThen_ok]; rfl
        · have hne : ¬ n * j.K.size = 0 := by
            intro h; rcases Nat.mul_eq_zero.1 h with h | h <;> omega
          have hr : (Instr.buildSlice t n (ps.map fun q => (q.1, ac.eval q.2))).run P X.w = .ok (.slice (some ⟨X.w.heap.size, 0, none⟩) n n) (X.w.alloc (.cells css.flatten.toArray e)) := by
            simp only [Instr.buildSlice, Sem.run_bind, run_underlying hu, T.runSize hj X.w, Result.andThen_ok, gt_iff_lt, hnot, if_false, hne, hzrun, Sem.run_pure, hzf]
            rw [h1']
            simp [newRow]
          simp only [execOp, ho, Sem.run_bind, hr, Result.andThen_ok]; rfl
      · subst hY
        have hg : (hpSet X.hp fresh (.row e j.K l'))[fresh]? = some (.row e j.K l') := hpSet_same ..
        have hn : (X.w.alloc (.cells css.flatten.toArray e)).heap[X.w.heap.size]? = some (.cells css.flatten.toArray e (0, 0)) := heap_alloc_new X.w _
        have hcap : (css.flatten.toArray).size = n * j.K.size := by simpa using hlen
        refine ⟨.inr ⟨X.w.heap.size, css.flatten.toArray, n, css, upd_same .., hn, hcap, by rw [hl']; exact Nat.le_refl _, ?_, h2.imp fun _ _ _ _ hr => RP.evo W at_.ok.fo hr, ?_⟩, ?_⟩
        · have := Nat.le_mul_of_pos_right n hpos
          simp only [maxLen]; omega
        · rw [hl', ← hlen]; simp only [List.take_length]
        · have := RS.row_new (Y := ⟨upd X.ρ fresh (some X.w.heap.size), hpSet X.hp fresh (.row e j.K l'), X.F, X.w.alloc (.cells css.flatten.toArray e)⟩) hg (upd_same ..) hn hcap (by rw [hl']; exact Nat.le_refl _)
          rwa [hl'] at this
    · cases h
  · cases h

end
end Go.Ev
end

section
/-
  THE EVALUATOR's OPERATIONS ARE THE MODEL's, MORE: slices made, conversions, copy.
-/
namespace Go.Ev
variable {A : Type}

theorem replicate_take_flat (zs : List Value) (m : Nat) : ∀ n k : Nat, n ≤ m → k = n * zs.length → ((List.replicate m zs).flatten).take k = (List.replicate n zs).flatten := by
  intro n k hn hk
  obtain ⟨d, rfl⟩ : ∃ d, m = n + d := ⟨m - n, by omega⟩
  rw [← List.replicate_append_replicate, List.flatten_append]
  have hl : (List.replicate n zs).flatten.length = k := by rw [hk]; simp
  rw [List.take_append_of_le_length (by omega), ← hl, List.take_length]

theorem flat_ints {F : Nat → Prop} {w : World} {q : IntKind} {ys : List Int} {css : List (List Value)} (h : All2 (RP F w (.int q)) ys css) : css.flatten = ys.map (Value.int q) := by
  induction h with
  | nil => rfl
  | cons hh _ ih => simp only [List.flatten_cons, List.map_cons]; rw [ih]; simp only [RP] at hh; rw [hh]; rfl

/-- Lists of one cell an element. -/
theorem flat_take {css : List (List Value)} (h : ∀ c ∈ css, c.length = 1) (n : Nat) : (css.take n).flatten = css.flatten.take n := by
  induction css generalizing n with
  | nil => simp
  | cons c r ih =>
    have hc := h c (by simp)
    match c, hc with
    | [v], _ =>
      cases n with
      | zero => simp
      | succ n => simp only [List.take_succ_cons, List.flatten_cons, List.singleton_append, List.take_succ_cons]; rw [ih fun c hc => h c (by simp [hc])]
theorem flat_drop {css : List (List Value)} (h : ∀ c ∈ css, c.length = 1) (n : Nat) : (css.drop n).flatten = css.flatten.drop n := by
  induction css generalizing n with
  | nil => simp
  | cons c r ih =>
    have hc := h c (by simp)
    match c, hc with
    | [v], _ =>
      cases n with
      | zero => simp
      | succ n => simp only [List.drop_succ_cons, List.flatten_cons, List.singleton_append, List.drop_succ_cons]; rw [ih fun c hc => h c (by simp [hc])]

theorem splice_cut {cs : List Value} {off n : Nat} (h : off + n ≤ cs.length) : splice cs off (cut cs off n) = cs := by
  unfold splice cut
  have hl : (List.take n (List.drop off cs)).length = n := by simp; omega
  rw [hl, List.append_assoc, ← List.drop_drop, List.take_append_drop, List.take_append_drop]

theorem splice_in {cs A C : List Value} {off lo n : Nat} (hA : cut cs off n = A) (h : off + n ≤ cs.length) (h2 : lo + C.length ≤ n) : splice cs off (A.take lo ++ (C ++ A.drop (lo + C.length))) = splice cs (off + lo) C := by
  subst hA
  unfold splice cut
  have hl : (List.take lo (List.take n (List.drop off cs)) ++ (C ++ List.drop (lo + C.length) (List.take n (List.drop off cs)))).length = n := by simp; omega
  rw [hl, List.take_take, Nat.min_eq_left (by omega), List.drop_take]
  have e1 : cs.take (off + lo) = cs.take off ++ (cs.drop off).take lo := by rw [List.take_add]
  have e2 : cs.drop (off + lo + C.length) = (cs.drop off).drop (lo + C.length) := by rw [List.drop_drop, Nat.add_assoc]
  have e3 : cs.drop (off + n) = ((cs.drop off).drop (lo + C.length)).drop (n - (lo + C.length)) := by rw [List.drop_drop, List.drop_drop]; congr 1; omega
  rw [e1, e2, e3]
  simp only [List.append_assoc]
  rw [List.take_append_drop]

section
variable {P : Program} {E : Env A} (T : TyOK P E) {o : Oper} {ev : Operand → AV} {sub : List (Nat × Blk)} {fresh : Nat} {k : Cont A} {out : A}

include T in
theorem makeSlice_sound {t : TypeId} {l c : Operand} (ho : o.op = .makeSlice t l c) (h : makeSliceK E t (ev l) (ev c) fresh k = some out) : ∃ v l, k v l = some out ∧ OpSem P o ev sub fresh v l := by
  have ml : l ∈ o.op.operands := by simp [Op.operands, ho]
  have mc : c ∈ o.op.operands := by simp [Op.operands, ho]
  obtain ⟨q, n, en, h⟩ := asInt_sound h
  obtain ⟨q', m, em, h⟩ := asInt_sound h
  obtain ⟨i, hi, h⟩ := ti_sound h
  split at h
  · rename_i e hd
    obtain ⟨j, hj, h⟩ := ti_sound h
    obtain ⟨hu, j', hj', hK, hpos, hbp⟩ := T.slice hi hd
    rw [hj] at hj'; cases hj'
    split at h
    · rename_i h0
      split at h
      · rename_i h1
        split at h
        · rename_i h2
          obtain ⟨inf, z, hin, hz, hszz, hb, hcs, hzr⟩ := T.zeroInfo hj
          obtain ⟨inf', _, hin', _, hsz', hby⟩ := T.info hj
          rw [hin] at hin'; cases hin'
          refine ⟨_, _, h, opsem_new fun X ac at_ _ => ?_⟩
          have r1 := at_.opr l ml; rw [en, RS.int] at r1
          have r2 := at_.opr c mc; rw [em, RS.int] at r2
          have hzl : z.cells.toList.length = j.K.size := by simpa using hcs
          have hm0 : 0 ≤ m := by omega
          obtain ⟨M, rfl⟩ : ∃ M : Nat, m = (M : Int) := ⟨m.toNat, by omega⟩
          obtain ⟨N, rfl⟩ : ∃ N : Nat, n = (N : Int) := ⟨n.toNat, by omega⟩
          have hbn : 1 ≤ inf.bytes := by rw [hby]; exact hbp
          have hMb : (M : Int) * inf.bytes ≤ 140737488355328 := by rw [hby]; exact h2
          have hM : M * 1 ≤ M * inf.bytes := Nat.mul_le_mul_left _ hbn
          have hMi : ((M * inf.bytes : Nat) : Int) ≤ 140737488355328 := by rw [Int.natCast_mul]; exact hMb
          have hr := run_make (P := P) X.w t e inf z hu hin hz q q' N M h0 h1 (by rw [Int.mul_comm]; omega) (by omega)
          have hmc : madeCells z.cells (Int.toNat (M : Int) * inf.size) = (List.replicate M z.cells.toList).flatten.toArray := by
            have := zeros_flat z.cells.toList M
            rw [hzl] at this
            simp only [Array.toArray_toList] at this
            rw [← this]
            unfold madeCells
            rw [Int.toNat_natCast, hsz']
          rw [hmc, Int.toNat_natCast, Int.toNat_natCast] at hr
          refine ⟨.slice (some ⟨X.w.heap.size, 0, none⟩) N M, some X.w.heap.size, X.w.alloc (.cells (List.replicate M z.cells.toList).flatten.toArray e), ?_, rfl, rfl, rfl, by simp, fun q hq => heap_alloc_old X.w _ hq, fun q hq => (Option.some.inj hq) ▸ Nat.le_refl _, fun Y hY W H => ?_⟩
          · simp only [execOp, ho, r1, r2, Sem.run_bind, hr, Result.andThen_ok]; rfl
          · subst hY
            have hg : (hpSet X.hp fresh (.row e j.K (List.replicate (Int.toNat (N : Int)) j.K.zero)))[fresh]? = some (.row e j.K (List.replicate (Int.toNat (N : Int)) j.K.zero)) := hpSet_same ..
            have hn : (X.w.alloc (.cells (List.replicate M z.cells.toList).flatten.toArray e)).heap[X.w.heap.size]? = some (.cells (List.replicate M z.cells.toList).flatten.toArray e (0, 0)) := heap_alloc_new X.w _
            have hcap : ((List.replicate M z.cells.toList).flatten.toArray).size = M * j.K.size := by simp [← hzl]
            have hlen : (List.replicate (Int.toNat (N : Int)) j.K.zero).length = N := by simp
            refine ⟨.inr ⟨X.w.heap.size, (List.replicate M z.cells.toList).flatten.toArray, M, List.replicate N z.cells.toList, upd_same .., hn, hcap, by rw [hlen]; omega, ?_, ?_, ?_⟩, ?_⟩
            · simp only [maxLen]; omega
            · rw [Int.toNat_natCast]
              exact All2.replicate (RP.evo W at_.ok.fo (hzr X.F X.w)) N
            · rw [hlen]
              exact (replicate_take_flat _ M N _ (by omega) (by rw [hzl])).symm
            · have := RS.row_new (Y := ⟨upd X.ρ fresh (some X.w.heap.size), hpSet X.hp fresh (.row e j.K (List.replicate (Int.toNat (N : Int)) j.K.zero)), X.F, X.w.alloc (.cells (List.replicate M z.cells.toList).flatten.toArray e)⟩) hg (upd_same ..) hn hcap (by rw [hlen]; omega)
              rwa [hlen] at this
        · cases h
      · cases h
    · cases h
  · cases h

theorem mkStr_fold (ns : List Int) : ns.foldl (fun r n => r.push (UInt8.ofNat n.toNat)) ByteArray.empty = mkStr ns := by
  have key : ∀ (ns : List Int) (a : Array UInt8), ns.foldl (fun (r : ByteArray) n => r.push (UInt8.ofNat n.toNat)) ⟨a⟩ = ⟨a ++ (ns.map fun n => UInt8.ofNat n.toNat).toArray⟩ := by
    intro ns
    induction ns with
    | nil => intro a; simp
    | cons n ns ih =>
      intro a
      show ns.foldl _ (⟨a.push _⟩ : ByteArray) = _
      rw [ih]
      congr 1
      apply Array.ext'
      simp
  exact (key ns #[]).trans (by simp [mkStr])

include T in
theorem convert_sound {s d : TypeId} {x : Operand} (ho : o.op = .convert s d x) (h : convertK E sub s d (ev x) fresh k = some out) : ∃ v l, k v l = some out ∧ OpSem P o ev sub fresh v l := by
  have mx : x ∈ o.op.operands := by simp [Op.operands, ho]
  obtain ⟨i, hi, h⟩ := ti_sound h
  obtain ⟨j, hj, h⟩ := ti_sound h
  cases hb : isNum (ev x) with
  | true =>
    rw [hb, cond_true] at h
    split at h
    · rename_i q q' n hq ex
      obtain ⟨ds, hds, _⟩ := T.desc hi
      have hdd := T.int hj hq
      exact ⟨_, _, h, opsem_value fun X ac at_ => by
        have h1 := at_.opr x mx; rw [ex, RS.int] at h1
        exact ⟨_, by simp [execOp, ho, h1, convert, run_underlying hds, run_underlying hdd, Conv.intToInt] <;> rfl, RS.int.2 rfl⟩⟩
    · cases h
  | false =>
    rw [hb, cond_false] at h
    split at h
    · rename_i e hq hd
      obtain ⟨ei, hei, h⟩ := ti_sound h
      obtain ⟨K, ys, h, hl⟩ := listK_sound h
      split at h
      · rename_i hK; subst hK
        have h : (if ei.K = .int .u8 then k (.p .str (mkStr ys)) [] else none) = some out := h
        split at h
        · rename_i hek
          obtain ⟨hu, _⟩ := T.slice hi hd
          have hue := T.int hei hek
          have hdd := T.str hj hq
          exact ⟨_, _, h, opsem_value fun X ac at_ => by
            obtain ⟨ao, c, h1, h2, h3⟩ := (hl X _ at_.ok at_.sub (at_.opr x mx)).get
            refine ⟨.string (mkStr ys), ?_, RS.str.2 rfl⟩
            have hrun : (Conv.bytesToString (.slice ao ys.length c)).run P X.w = .ok (.string (mkStr ys)) X.w := by
              by_cases hp : 0 < ys.length
              · obtain ⟨ad, css, rfl, _, h4, h5⟩ := h3 hp
                have hfl := flat_ints h4
                have hlc := run_loadCells_list (P := P) X.w ad css.flatten h5
                rw [hfl] at hlc
                rw [List.length_map] at hlc
                rw [run_bytesToString X.w ad ys.length c ys hlc, mkStr_fold]
              · have h0 : ys = [] := List.eq_nil_of_length_eq_zero (by omega)
                subst h0
                have : (Conv.bytesToString (.slice ao 0 c)).run P X.w = .ok (.string ByteArray.empty) X.w := by
                  unfold Conv.bytesToString
                  cases ao with
                  | none => simp [Sem.run_pure]
                  | some ad =>
                    have := run_loadCells_list (P := P) X.w ad [] (by simp)
                    simp only [List.length_nil] at this
                    simp [this, Sem.run_pure]
                exact this
            simp only [execOp, ho, h1, Sem.run_bind, run_convert_bytes_string X.w _ _ _ _ _ _ hu hue hdd, hrun, Result.andThen_ok]
            rfl⟩
        · cases h
      · cases h
    · cases h

include T in
theorem copy_sound {t t2 : TypeId} {d x : Operand} {c : Call} (ho : o.op = .call c) (hc : c.callee = .builtin .copy) (ha : c.args.toList = [d, x]) (ht : c.argTypes.toList = [t, t2])
    (h : copyK E t sub (ev d) (ev x) k = some out) : ∃ v l, k v l = some out ∧ OpSem P o ev sub fresh v l := by
  have ha' : c.args = #[d, x] := Array.toList_inj.1 ha
  have ht' : c.argTypes = #[t, t2] := Array.toList_inj.1 ht
  have md : d ∈ o.op.operands := by simp [Op.operands, ho, Call.operands, hc, ha']
  have mx : x ∈ o.op.operands := by simp [Op.operands, ho, Call.operands, hc, ha']
  obtain ⟨ti, hti, h⟩ := ti_sound h
  split at h
  · rename_i e0 hd
    obtain ⟨hu, j, hj, hK, hpos, _⟩ := T.slice hti hd
    obtain ⟨K, ys, h, hl⟩ := listK_sound h
    split at h
    · rename_i id path lo len ed
      obtain ⟨B, hB, h⟩ := look_sound h
      split at h
      · rename_i t' KV v
        obtain ⟨y0, h, hg⟩ := getV_sound h
        split at h
        · rename_i n e l
          split at h
          · rename_i hKe; subst hKe
            split at h
            · rename_i hK2
              split at h
              · rename_i hsz
                obtain ⟨v', h, hfn, hs⟩ := setV_sound h
                refine ⟨_, _, h, opsem_write hB rfl rfl (.var ..) fun X ac at_ => ?_⟩
                have h1 := at_.opr d md; rw [ed] at h1
                have hX := at_.sub _ _ hB
                obtain ⟨b, off, n', e', h2, h3, h4, ao, cp, h5, h6, h7⟩ := (R1_slc hX).1 ((RS.one (by simp) (by simp) (by simp) (by simp)).1 h1)
                obtain ⟨hfo, b', cs, h8, h9, h10⟩ := at_.ok.blk _ _ hX
                rw [h2] at h8; cases h8
                obtain ⟨off', K', h11, h12, h13⟩ := hg hfo h10
                rw [h3] at h11; cases h11
                simp only [AV.fits, decide_eq_true_eq] at h12
                cases h12
                obtain ⟨hll, css, hcut, hall⟩ := h13
                have hinf : (P.info? e0).map (·.size) = some 1 := by
                  have := T.size hj
                  rw [hK] at hK2; cases hK2; rw [this, hsz]
                obtain ⟨sao, sc, g1, g2, g3⟩ := (hl X _ at_.ok at_.sub (at_.opr x mx)).get
                have one : ∀ {l : List K.den} {css : List (List Value)}, All2 (RP X.F X.w K) l css → ∀ c ∈ css, c.length = 1 := fun h c hc => by rw [← hsz]; exact h.lens c hc
                have hA : css.flatten.length = n := by rw [flatten_length (one hall), ← hall.length, hll, Nat.mul_one]
                have hoff := koff_le h3
                have hcsl : cs.length = KV.size := RA.length hfo h10
                have hsize : off + n ≤ cs.length := by rw [hcsl]; simp only [Kind.size] at hoff; rw [hsz, Nat.mul_one] at hoff; exact hoff
                have hnsz : (Kind.arr n K).size = n := by simp only [Kind.size]; rw [hsz, Nat.mul_one]
                have hcutd : ∀ i u, css.flatten[i]? = some u → cs[off + i]? = some u := fun i u hi => by
                  rw [← hcut] at hi
                  exact cut_get hi
                have exec : ∀ (w' : World) (r : Nat), (Builtin.copy_ c.argTypes o.type #[ac.eval d, ac.eval x]).run P X.w = .ok (goInt r) w' → (execOp ac.eval o).run P X.w = .ok (.value (.int .i64 r)) w' := fun w' r hr => by
                  simp [execOp, ho, resolve, hc, ha', invoke, builtin]
                  rw [hr]; rfl
                by_cases hz : min ys.length len = 0
                · -- nothing goes over
                  have hrun : (execOp ac.eval o).run P X.w = .ok (.value (.int .i64 ((min ys.length len : Nat) : Int))) X.w := by
                    refine exec _ _ ?_
                    rw [ht', g1, h5, hz]
                    exact run_copy_none X.w t t2 o.type e0 ao sao len cp ys.length sc hu hinf hz
                  have hnew : l.take lo ++ (ys.take len ++ l.drop (lo + min ys.length len)) = l := by
                    have : ys.take len = [] := List.eq_nil_of_length_eq_zero (by rw [List.length_take]; omega)
                    rw [this, hz, List.nil_append, Nat.add_zero, List.take_append_drop]
                  have hvc : RA X (.p (.arr n K) (l.take lo ++ (ys.take len ++ l.drop (lo + min ys.length len)))) css.flatten := by rw [hnew]; exact ⟨hll, css, rfl, hall⟩
                  obtain ⟨off', K', k1, k2, k3⟩ := hs hfo h10 hvc
                  rw [h3] at k1; cases k1
                  have hsp : splice cs off css.flatten = cs := by
                    rw [← hcut, hnsz]; exact splice_cut hsize
                  rw [hsp] at k3
                  refine ⟨_, _, b, X.w, hrun, .inl rfl, h2, rfl, rfl, rfl, Nat.le_refl _, fun _ _ _ => rfl, fun c' e' f' hc' => ⟨c', hc', rfl⟩, fun Y hY W H => ?_⟩
                  subst hY
                  exact ⟨⟨hfn hfo, b, cs, h2, h9, k3.evo W H at_.ok.fo⟩, RS.int.2 rfl⟩
                · have hlen : 0 < len := by omega
                  have hyl : 0 < ys.length := by omega
                  have hao := h7 hlen
                  subst hao
                  obtain ⟨ad, css2, rfl, _, g4, g5⟩ := g3 hyl
                  have hC : ((css2.take len).flatten).length = min ys.length len := by rw [flat_take (one g4), List.length_take, flatten_length (one g4), ← g4.length]; omega
                  have hrow := run_copy_row (P := P) X.w t t2 o.type e0 b (off + lo * K.size) len cp ad ys.length sc cs.toArray t' (css2.take len).flatten hu hinf h9 hC (fun j v hj => g5 j v (by
                      rw [flat_take (one g4), List.getElem?_take] at hj
                      split at hj
                      · exact hj
                      · cases hj)) (by rw [hC, hsz]; simp only [List.size_toArray]; omega) (fun v hv => by
                      obtain ⟨cc, hcc, hv⟩ := List.mem_flatten.1 hv
                      obtain ⟨i, hi⟩ := List.mem_iff_getElem?.1 (List.mem_of_mem_take hcc)
                      obtain ⟨a, _, hr⟩ := g4.get' hi
                      exact RP.one hr v hv)
                  rw [hC] at hrow
                  have hrun := exec _ _ (by rw [ht', g1, h5]; exact hrow)
                  have hvc : RA X (.p (.arr n K) (l.take lo ++ (ys.take len ++ l.drop (lo + min ys.length len)))) (css.flatten.take lo ++ ((css2.take len).flatten ++ css.flatten.drop (lo + (css2.take len).flatten.length))) := by
                    refine ⟨by simp only [List.length_append, List.length_take, List.length_drop]; omega, css.take lo ++ (css2.take len ++ css.drop (lo + min ys.length len)), ?_, (hall.take lo).append ((g4.take len).append (hall.drop _))⟩
                    rw [List.flatten_append, List.flatten_append, flat_take (one hall), flat_drop (one hall), hC]
                  obtain ⟨off', K', k1, k2, k3⟩ := hs hfo h10 hvc
                  rw [h3] at k1; cases k1
                  rw [hnsz] at hcut
                  rw [splice_in hcut hsize (by rw [hC]; omega)] at k3
                  have hw : ((cs.toArray.toList.take (off + lo * K.size) ++ (css2.take len).flatten ++ cs.toArray.toList.drop (off + lo * K.size + min ys.length len)).toArray) = (splice cs (off + lo) (css2.take len).flatten).toArray := by
                    unfold splice; rw [hsz, Nat.mul_one, hC]
                  rw [hw] at hrun
                  refine ⟨_, _, b, _, hrun, .inl rfl, h2, rfl, rfl, rfl, by rw [setRow_size]; exact Nat.le_refl _, fun k _ hk => setRow_other _ _ _ _ hk, fun c' e' f' hc' => ⟨_, setRow_heap _ _ _ _ _ _ hc', ?_⟩, fun Y hY W H => ?_⟩
                  · rw [h9] at hc'; cases hc'
                    simp only [List.size_toArray]
                    exact splice_length (by rw [hC]; omega)
                  · subst hY
                    exact ⟨⟨hfn hfo, b, splice cs (off + lo) (css2.take len).flatten, h2, setRow_heap _ _ _ _ _ _ h9, k3.evo W H at_.ok.fo⟩, RS.int.2 rfl⟩
              · cases h
            · cases h
          · cases h
        · cases h
      · cases h
    · cases h
  · cases h

end
end Go.Ev
end

