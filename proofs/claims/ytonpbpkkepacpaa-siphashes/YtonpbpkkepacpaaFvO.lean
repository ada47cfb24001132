/-
  THE EVALUATOR's OPERATIONS ARE THE MODEL's, MORE: values and slices built of parts.
-/
import Derived.Test.YtonpbpkkepacpaaFvN
import Derived.Laws.Tables
set_option linter.all false
namespace Go.Ev
variable {A : Type}

theorem fold_set : ∀ (vc : List Value) (off n : Nat) (cs : List Value), off + n + vc.length ≤ cs.length →
    (vc.zipIdx n).foldl (fun (c : Array Value) (q : Value × Nat) => c.setIfInBounds (off + q.2) q.1) cs.toArray = (splice cs (off + n) vc).toArray
  | [], off, n, cs, h => by simp [splice]
  | v :: vc, off, n, cs, h => by
    simp only [List.length_cons] at h
    have ih := fold_set vc off (n + 1) (cs.set (off + n) v) (by simp; omega)
    simp only [List.zipIdx_cons, List.foldl_cons, List.setIfInBounds_toArray]
    rw [ih]
    congr 1
    refine List.ext_getElem? fun j => ?_
    unfold splice
    simp only [List.getElem?_append, List.length_take, List.length_append, List.length_set, List.length_cons, List.getElem?_take, List.getElem?_drop, List.getElem?_set]
    rcases Nat.lt_trichotomy j (off + n) with h1 | h1 | h1
    · simp (disch := omega) only [Nat.min_eq_left, if_pos, if_neg]
    · subst h1
      have e : min (off + (n + 1)) cs.length = off + (n + 1) := by omega
      have e' : min (off + n) cs.length = off + n := by omega
      rw [e, e']
      simp (disch := omega) [show off + n < off + (n + 1) by omega, show off + n < cs.length by omega]
      rw [if_pos (by omega)]; rfl
    · have e : min (off + (n + 1)) cs.length = off + (n + 1) := by omega
      have e' : min (off + n) cs.length = off + n := by omega
      rw [e, e']
      by_cases h2 : j < off + (n + 1) + vc.length
      · rw [if_pos h2, if_neg (by omega), if_pos (by omega), if_neg (by omega)]
        rw [show j - (off + n) = (j - (off + (n + 1))) + 1 by omega, List.getElem?_cons_succ]
      · rw [if_neg h2, if_neg (by omega), if_neg (by omega)]
        congr 1; omega

theorem fill_step {v : Value} {vc cs : List Value} {off : Nat} (hv : v.cells = vc.toArray) (h : off + vc.length ≤ cs.length) :
    v.cells.zipIdx.foldl (fun cs (c, j) => cs.setIfInBounds (off + j) c) cs.toArray = (splice cs off vc).toArray := by
  rw [hv]
  have := fold_set vc off 0 cs (by simpa using h)
  simpa using this

theorem fillK_sound {ev : Operand → AV} {out : A} {K : Kind} : ∀ {ps : List (Nat × Operand)} {v : AV} {k : AV → Option A}, fillK K (ps.map fun q => (q.1, ev q.2)) v k = some out →
    ∃ v', k v' = some out ∧ (v.fits K = true → v'.fits K = true) ∧ ∀ (X : Cx) (g : Operand → Value) (place : Nat → Option (Nat × Nat)) (cs : List Value),
      (∀ i off K', koff K [hopOf K i] = some (off, K') → place i = some (off, K'.size)) → v.fits K = true → (∀ q ∈ ps, RS X (ev q.2) (g q.2)) → RA X v cs →
      ∃ cs', Instr.fill place cs.toArray (ps.map fun q => (q.1, g q.2)) = some cs'.toArray ∧ RA X v' cs'
  | [], v, k, h => ⟨v, h, fun h => h, fun X g place cs _ _ _ hr => ⟨cs, rfl, hr⟩⟩
  | (i, x) :: ps, v, k, h => by
    simp only [List.map_cons, fillK] at h
    split at h
    · cases h
    · rename_i hna
      simp only [Bool.or_eq_true, not_or, Bool.not_eq_true] at hna
      obtain ⟨hna', htup⟩ := hna
      obtain ⟨y, h, hf, hs⟩ := setV_sound h
      obtain ⟨v', h, hf', hs'⟩ := fillK_sound h
      refine ⟨v', h, fun h => hf' (hf h), fun X g place cs hpl hfit hall hr => ?_⟩
      have hx := (hall (i, x) (by simp)).to0 (fun vs e => by simp only at e; rw [e] at htup; cases htup)
      obtain ⟨vc, h1, h2⟩ := hx.cells hna'
      obtain ⟨off, K', h3, h4, h5⟩ := hs hfit hr h1
      have hl := RA.length h4 h1
      have hle := koff_le h3
      have hcl := RA.length hfit hr
      obtain ⟨cs', h6, h7⟩ := hs' X g place _ hpl (hf hfit) (fun q hq => hall q (by simp [hq])) h5
      refine ⟨cs', ?_, h7⟩
      simp only [List.map_cons, Instr.fill, hpl i off K' h3]
      rw [if_neg (by rw [h2]; simp [hl]; omega), fill_step h2 (by omega)]
      exact h6

theorem fieldsB_lt {tys : List (TypeId × TI)} : ∀ {fs : List Field} {ts : List TypeId} {K : Kind} {off i o : Nat} {K' : Kind}, fieldsB tys fs ts K off = true → koff K [.fld i] = some (o, K') → i < ts.length
  | f :: fs, t :: ts, .pair a b, off, i, o, K', hb, hi => by
    simp only [fieldsB, Bool.and_eq_true] at hb
    cases i with
    | zero => simp
    | succ i =>
      simp only [koff, Option.map_eq_some_iff] at hi
      obtain ⟨q, hq, _⟩ := hi
      have := fieldsB_lt (o := q.1) (K' := q.2) hb.2 hq
      simpa using this
  | [], [], .unit, _, _, _, _, _, hi => by simp [koff] at hi
  | [], [], .pair _ _, _, _, _, _, hb, _ => by simp [fieldsB] at hb
  | [], [], .int _, _, _, _, _, hb, _ => by simp [fieldsB] at hb
  | [], [], .bool, _, _, _, _, hb, _ => by simp [fieldsB] at hb
  | [], [], .str, _, _, _, _, hb, _ => by simp [fieldsB] at hb
  | [], [], .opq, _, _, _, _, hb, _ => by simp [fieldsB] at hb
  | [], [], .arr _ _, _, _, _, _, hb, _ => by simp [fieldsB] at hb
  | [], [], .sl _, _, _, _, _, hb, _ => by simp [fieldsB] at hb
  | _ :: _, [], _, _, _, _, _, hb, _ => by simp [fieldsB] at hb
  | [], _ :: _, _, _, _, _, _, hb, _ => by simp [fieldsB] at hb
  | _ :: _, _ :: _, .int _, _, _, _, _, hb, _ => by simp [fieldsB] at hb
  | _ :: _, _ :: _, .bool, _, _, _, _, hb, _ => by simp [fieldsB] at hb
  | _ :: _, _ :: _, .str, _, _, _, _, hb, _ => by simp [fieldsB] at hb
  | _ :: _, _ :: _, .opq, _, _, _, _, hb, _ => by simp [fieldsB] at hb
  | _ :: _, _ :: _, .unit, _, _, _, _, hb, _ => by simp [fieldsB] at hb
  | _ :: _, _ :: _, .arr _ _, _, _, _, _, hb, _ => by simp [fieldsB] at hb
  | _ :: _, _ :: _, .sl _, _, _, _, _, hb, _ => by simp [fieldsB] at hb

theorem fieldsB_places {P : Program} {tys : List (TypeId × TI)} (hs : ∀ (t : TypeId) (j : TI), tys.lookup t = some j → (P.info? t).map (·.size) = some j.K.size) :
    ∀ {fs : List Field} {ts : List TypeId} {K : Kind} {off : Nat}, fieldsB tys fs ts K off = true →
    ∃ pl, fs.mapM (fun f => (P.info? f.type).map fun i => (f.offset, i.size)) = some pl ∧ ∀ i o K', koff K [.fld i] = some (o, K') → pl[i]? = some (off + o, K'.size)
  | f :: fs, t :: ts, .pair a b, off, hb => by
    simp only [fieldsB, Bool.and_eq_true, beq_iff_eq, decide_eq_true_eq] at hb
    obtain ⟨⟨⟨⟨rfl, rfl⟩, hpos⟩, hl⟩, hb⟩ := hb
    obtain ⟨pl, h1, h2⟩ := fieldsB_places hs hb
    cases h : tys.lookup f.type with
    | none => rw [h] at hl; cases hl
    | some j =>
      rw [h] at hl
      have hjK : j.K = a := by simpa using hl
      subst hjK
      obtain ⟨inf, h3, h4⟩ := Option.map_eq_some_iff.1 (hs _ _ h)
      refine ⟨(f.offset, j.K.size) :: pl, by simp [List.mapM_cons, h1, h3, h4], fun i o K' hk => ?_⟩
      cases i with
      | zero => simp [koff, koff_nil] at hk; obtain ⟨rfl, rfl⟩ := hk; rfl
      | succ i =>
        simp only [koff, Option.map_eq_some_iff, Prod.exists, Prod.mk.injEq] at hk
        obtain ⟨o', k', hk, rfl, rfl⟩ := hk
        have := h2 i o' k' hk
        simpa [Nat.add_assoc] using this
  | [], [], .unit, _, _ => ⟨[], rfl, fun i o K' hk => by simp [koff] at hk⟩
  | [], [], .pair _ _, _, hb => by simp [fieldsB] at hb
  | [], [], .int _, _, hb => by simp [fieldsB] at hb
  | [], [], .bool, _, hb => by simp [fieldsB] at hb
  | [], [], .str, _, hb => by simp [fieldsB] at hb
  | [], [], .opq, _, hb => by simp [fieldsB] at hb
  | [], [], .arr _ _, _, hb => by simp [fieldsB] at hb
  | [], [], .sl _, _, hb => by simp [fieldsB] at hb
  | _ :: _, [], _, _, hb => by simp [fieldsB] at hb
  | [], _ :: _, _, _, hb => by simp [fieldsB] at hb
  | _ :: _, _ :: _, .int _, _, hb => by simp [fieldsB] at hb
  | _ :: _, _ :: _, .bool, _, hb => by simp [fieldsB] at hb
  | _ :: _, _ :: _, .str, _, hb => by simp [fieldsB] at hb
  | _ :: _, _ :: _, .opq, _, hb => by simp [fieldsB] at hb
  | _ :: _, _ :: _, .unit, _, hb => by simp [fieldsB] at hb
  | _ :: _, _ :: _, .arr _ _, _, hb => by simp [fieldsB] at hb
  | _ :: _, _ :: _, .sl _, _, hb => by simp [fieldsB] at hb

section
variable {P : Program} {E : Env A} (T : TyOK P E) {o : Oper} {ev : Operand → AV} {sub : List (Nat × Blk)} {fresh : Nat} {k : Cont A} {out : A}

include T in
theorem build_sound {t : TypeId} {ps : Array (Nat × Operand)} (ho : o.op = .build t ps)
    (h : (E.ti t fun i => if i.d.agg then fillK i.K (ps.toList.map fun q => (q.1, ev q.2)) (.p i.K i.K.zero) (fun v => k v []) else none) = some out) : ∃ v l, k v l = some out ∧ OpSem P o ev sub fresh v l := by
  have mp : ∀ q ∈ ps.toList, q.2 ∈ o.op.operands := fun q hq => by
    simp only [Op.operands, ho]
    simp only [List.mem_toArray, List.mem_map]
    exact ⟨q, hq, rfl⟩
  obtain ⟨i, hi, h⟩ := ti_sound h
  split at h
  · rename_i hd
    obtain ⟨v, h, hf, hs⟩ := fillK_sound h
    obtain ⟨inf, z, hin, hz, hsz, _, _, hzr⟩ := T.zeroInfo hi
    have hfit : (AV.p i.K i.K.zero).fits i.K = true := by simp [AV.fits]
    -- the places
    have hpl : ∃ place : Nat → Option (Nat × Nat), (∀ i' off K', koff i.K [hopOf i.K i'] = some (off, K') → place i' = some (off, K'.size)) ∧ i.K.isAgg = true ∧
        ∀ parts, P.built t parts = Instr.fill place z.cells parts := by
      cases hdd : i.d with
      | array n e =>
        obtain ⟨hu, j, hj, hK, hpos⟩ := T.array hi hdd
        obtain ⟨ie, h3, h4⟩ := Option.map_eq_some_iff.1 (T.size hj)
        refine ⟨fun i => some (i * j.K.size, j.K.size), fun i' off K' hk => ?_, by rw [hK]; rfl, fun parts => by simp [Program.built, hin, hu, hz, h3, h4]⟩
        rw [hK] at hk
        simp only [hopOf, koff] at hk
        split at hk
        · simp [koff_nil] at hk; obtain ⟨rfl, rfl⟩ := hk; rfl
        · cases hk
      | struct ts =>
        obtain ⟨fs, hu, hb⟩ := T.struct hi hdd
        obtain ⟨pl, h1, h2⟩ := fieldsB_places (P := P) (fun t j hj => T.size hj) hb
        have hag : i.K.isAgg = true ∧ ∀ i', hopOf i.K i' = .fld i' := by
          cases hK : i.K <;> rw [hK] at hb <;> first | exact ⟨rfl, fun _ => rfl⟩ | (cases hl : fs.toList <;> cases ts <;> simp [hl, fieldsB] at hb)
        refine ⟨(pl.toArray[·]?), fun i' off K' hk => ?_, hag.1, fun parts => by simp only [Program.built, hin, hu, hz, h1]⟩
        rw [hag.2] at hk
        have := h2 i' off K' hk
        simpa using this
      | _ => rw [hdd] at hd; simp [TD.agg] at hd
    obtain ⟨place, hp1, hag, hp2⟩ := hpl
    refine ⟨_, _, h, opsem_value fun X ac at_ => ?_⟩
    obtain ⟨cs', h1, h2⟩ := hs X ac.eval place z.cells.toList hp1 hfit (fun q hq => at_.opr _ (mp q hq)) (hzr X.F X.w)
    have hv := hf hfit
    have hna : v.isAny = false := by
      cases hv' : v.isAny with
      | false => rfl
      | true => cases v <;> first | (cases hv'; done) | (cases hK : i.K <;> rw [hK] at hv hag <;> simp [AV.fits, Kind.isAgg] at hv hag)
    refine ⟨.agg cs'.toArray, ?_, RS.of0 (.inr ⟨cs', h2, .inl ⟨by rw [fits_agg hv hna, hag], rfl⟩⟩) (fits_noTup hv)⟩
    have hb := run_build X.w t (ps.map fun q => (q.1, ac.eval q.2)) cs'.toArray (by rw [hp2]; simpa using h1)
    simp [execOp, ho, hb]
  · cases h

end
end Go.Ev
