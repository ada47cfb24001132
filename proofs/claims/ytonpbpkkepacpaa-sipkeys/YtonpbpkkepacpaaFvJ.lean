/-
  THE EVALUATOR's OPERATIONS ARE THE MODEL's, MORE: one operand, addresses, loads, parts, slices, lengths.
-/
import Derived.Test.YtonpbpkkepacpaaFvI
set_option linter.all false
namespace Go.Ev
variable {A : Type}

theorem kat_nil (K : Kind) : kat K [] = some K := by cases K <;> rfl

theorem kat_koff : ∀ {K : Kind} {path : List Hop} {off : Nat} {K' : Kind}, koff K path = some (off, K') → kat K path = some K'
  | K, [], off, K', h => by rw [koff_nil] at h; simp at h; obtain ⟨rfl, rfl⟩ := h; exact kat_nil _
  | .pair a b, .fld 0 :: r, off, K', h => by simpa [kat] using kat_koff (K := a) (path := r) (by simpa [koff] using h)
  | .pair a b, .fld (n + 1) :: r, off, K', h => by
    simp only [koff, Option.map_eq_some_iff, Prod.exists, Prod.mk.injEq] at h
    obtain ⟨o, k, h, rfl, rfl⟩ := h
    simpa [kat] using kat_koff h
  | .arr n e, .idx i :: r, off, K', h => by
    simp only [koff] at h
    split at h
    · simp only [Option.map_eq_some_iff, Prod.exists, Prod.mk.injEq] at h
      obtain ⟨o, k, h, rfl, rfl⟩ := h
      simpa [kat] using kat_koff h
    · cases h
  | .int _, .fld _ :: _, _, _, h => by simp [koff] at h
  | .int _, .idx _ :: _, _, _, h => by simp [koff] at h
  | .bool, .fld _ :: _, _, _, h => by simp [koff] at h
  | .bool, .idx _ :: _, _, _, h => by simp [koff] at h
  | .str, .fld _ :: _, _, _, h => by simp [koff] at h
  | .str, .idx _ :: _, _, _, h => by simp [koff] at h
  | .opq, .fld _ :: _, _, _, h => by simp [koff] at h
  | .opq, .idx _ :: _, _, _, h => by simp [koff] at h
  | .unit, .fld _ :: _, _, _, h => by simp [koff] at h
  | .unit, .idx _ :: _, _, _, h => by simp [koff] at h
  | .sl _, .fld _ :: _, _, _, h => by simp [koff] at h
  | .sl _, .idx _ :: _, _, _, h => by simp [koff] at h
  | .pair _ _, .idx _ :: _, _, _, h => by simp [koff] at h
  | .arr _ _, .fld _ :: _, _, _, h => by simp [koff] at h

theorem koff_append {q : List Hop} {o : Nat} {K'' : Kind} : ∀ {K : Kind} {path : List Hop} {off : Nat} {K' : Kind}, koff K path = some (off, K') → koff K' q = some (o, K'') → koff K (path ++ q) = some (off + o, K'')
  | K, [], off, K', h, hq => by rw [koff_nil] at h; simp at h; obtain ⟨rfl, rfl⟩ := h; simpa using hq
  | .pair a b, .fld 0 :: r, off, K', h, hq => by simpa [koff] using koff_append (K := a) (path := r) (by simpa [koff] using h) hq
  | .pair a b, .fld (n + 1) :: r, off, K', h, hq => by
    simp only [koff, Option.map_eq_some_iff, Prod.exists, Prod.mk.injEq] at h
    obtain ⟨o', k, h, rfl, rfl⟩ := h
    have := koff_append h hq
    simp only [List.cons_append] at this ⊢
    simp [koff, this, Nat.add_assoc]
  | .arr n e, .idx i :: r, off, K', h, hq => by
    simp only [koff] at h
    split at h
    · rename_i hi
      simp only [Option.map_eq_some_iff, Prod.exists, Prod.mk.injEq] at h
      obtain ⟨o', k, h, rfl, rfl⟩ := h
      have := koff_append h hq
      simp [koff, this, hi, Nat.add_assoc]
    · cases h
  | .int _, .fld _ :: _, _, _, h, _ => by simp [koff] at h
  | .int _, .idx _ :: _, _, _, h, _ => by simp [koff] at h
  | .bool, .fld _ :: _, _, _, h, _ => by simp [koff] at h
  | .bool, .idx _ :: _, _, _, h, _ => by simp [koff] at h
  | .str, .fld _ :: _, _, _, h, _ => by simp [koff] at h
  | .str, .idx _ :: _, _, _, h, _ => by simp [koff] at h
  | .opq, .fld _ :: _, _, _, h, _ => by simp [koff] at h
  | .opq, .idx _ :: _, _, _, h, _ => by simp [koff] at h
  | .unit, .fld _ :: _, _, _, h, _ => by simp [koff] at h
  | .unit, .idx _ :: _, _, _, h, _ => by simp [koff] at h
  | .sl _, .fld _ :: _, _, _, h, _ => by simp [koff] at h
  | .sl _, .idx _ :: _, _, _, h, _ => by simp [koff] at h
  | .pair _ _, .idx _ :: _, _, _, h, _ => by simp [koff] at h
  | .arr _ _, .fld _ :: _, _, _, h, _ => by simp [koff] at h

theorem look_sound {out : A} {sub : List (Nat × Blk)} {id : Nat} {k : Blk → Option A} (h : look sub id k = some out) : ∃ b, sub.lookup id = some b ∧ k b = some out := by
  unfold look at h
  split at h
  · rename_i b hb; exact ⟨b, hb, h⟩
  · cases h

theorem asInt_sound {out : A} {v : AV} {k : Int → Option A} (h : asInt v k = some out) : ∃ (q : IntKind) (n : Int), v = .p (.int q) n ∧ k n = some out := by
  unfold asInt at h
  split at h
  · exact ⟨_, _, rfl, h⟩
  · cases h

theorem add_lit (b o n : Nat) : (⟨b, o, none⟩ : Addr).add n = ⟨b, o + n, none⟩ := Addr.add_lit b o n

theorem koff_idx {n : Nat} {e : Kind} {i : Nat} (h : i < n) : koff (.arr n e) [.idx i] = some (i * e.size, e) := by
  simp [koff, h, koff_nil]

/-- An address into a block of ours, and one step on. -/
theorem kindAt_sound {out : A} {sub : List (Nat × Blk)} {id : Nat} {path : List Hop} {k : Kind → Option A} (h : kindAt sub id path k = some out) :
    ∃ K', k K' = some out ∧ ∀ (X : Cx) (v : Value), (∀ (id : Nat) (b : Blk), sub.lookup id = some b → X.hp[id]? = some b) → R1 X (.ptr id path) v →
      ∃ b off, v = .pointer (some ⟨b, off, none⟩) ∧ ∀ q o K'', koff K' q = some (o, K'') → R1 X (.ptr id (path ++ q)) (.pointer (some ⟨b, off + o, none⟩)) := by
  obtain ⟨B, hB, h⟩ := look_sound h
  split at h
  · rename_i t K av
    split at h
    · rename_i K' hk
      refine ⟨K', h, fun X v hs hr => ?_⟩
      have hX := hs id _ hB
      obtain ⟨b, off, K1, h1, h2, rfl⟩ := (R1_ptr hX).1 hr
      have : K1 = K' := by have := kat_koff h2; rw [hk] at this; exact (Option.some.inj this).symm
      subst this
      exact ⟨b, off, rfl, fun q o K'' ho => (R1_ptr hX).2 ⟨b, off + o, K'', h1, koff_append h2 ho, rfl⟩⟩
    · cases h
  · rename_i t K xs
    split at h
    · rename_i i r _
      split at h
      · rename_i K' hk
        refine ⟨K', h, fun X v hs hr => ?_⟩
        have hX := hs id _ hB
        obtain ⟨b, i', r', off, K1, hp, hi, h1, h2, rfl⟩ := (R1_ptrR hX).1 hr
        simp only [List.cons.injEq, Hop.idx.injEq] at hp
        obtain ⟨rfl, rfl⟩ := hp
        have : K1 = K' := by have := kat_koff h2; rw [hk] at this; exact (Option.some.inj this).symm
        subst this
        exact ⟨b, _, rfl, fun q o K'' ho => (R1_ptrR hX).2 ⟨b, i, r ++ q, off + o, K'', by simp, hi, h1, koff_append h2 ho, by rw [Nat.add_assoc]⟩⟩
      · cases h
    · cases h
  · cases h

theorem fieldsB_get {tys : List (TypeId × TI)} : ∀ {fs : List Field} {ts : List TypeId} {K : Kind} {off i : Nat}, fieldsB tys fs ts K off = true → i < ts.length →
    ∃ f j o, fs[i]? = some f ∧ tys.lookup f.type = some j ∧ 0 < j.K.size ∧ f.offset = off + o ∧ koff K [.fld i] = some (o, j.K)
  | f :: fs, t :: ts, .pair a b, off, i, hb, hi => by
    simp only [fieldsB, Bool.and_eq_true, beq_iff_eq, decide_eq_true_eq] at hb
    obtain ⟨⟨⟨⟨rfl, rfl⟩, hpos⟩, hl⟩, hb⟩ := hb
    obtain ⟨j, hj, hjK⟩ : ∃ j, tys.lookup f.type = some j ∧ j.K = a := by
      cases h : tys.lookup f.type with
      | none => rw [h] at hl; cases hl
      | some j => rw [h] at hl; exact ⟨j, rfl, by simpa using hl⟩
    subst hjK
    cases i with
    | zero => exact ⟨f, j, 0, rfl, hj, hpos, rfl, by simp [koff, koff_nil]⟩
    | succ i =>
      obtain ⟨g, j', o, h1, h2, h3, h4, h5⟩ := fieldsB_get hb (by simpa using hi)
      exact ⟨g, j', j.K.size + o, by simpa using h1, h2, h3, by rw [h4, Nat.add_assoc], by simp [koff, h5]⟩
  | [], [], _, _, _, _, hi => by simp at hi
  | _ :: _, [], _, _, _, _, hi => by simp at hi
  | [], _ :: _, _, _, _, hb, _ => by simp [fieldsB] at hb
  | _ :: _, _ :: _, .int _, _, _, hb, _ => by simp [fieldsB] at hb
  | _ :: _, _ :: _, .bool, _, _, hb, _ => by simp [fieldsB] at hb
  | _ :: _, _ :: _, .str, _, _, hb, _ => by simp [fieldsB] at hb
  | _ :: _, _ :: _, .opq, _, _, hb, _ => by simp [fieldsB] at hb
  | _ :: _, _ :: _, .unit, _, _, hb, _ => by simp [fieldsB] at hb
  | _ :: _, _ :: _, .arr _ _, _, _, hb, _ => by simp [fieldsB] at hb
  | _ :: _, _ :: _, .sl _, _, _, hb, _ => by simp [fieldsB] at hb

section
variable {P : Program} {E : Env A} (T : TyOK P E) {o : Oper} {ev : Operand → AV} {sub : List (Nat × Blk)} {fresh : Nat} {k : Cont A} {out : A}

include T in
theorem TyOK.struct {t : TypeId} {i : TI} {ts : List TypeId} (h : E.ty.lookup t = some i) (hd : i.d = .struct ts) : ∃ fs, P.underlying t = some (.struct fs) ∧ fieldsB E.ty fs.toList ts i.K 0 = true := by
  obtain ⟨d, h1, h2⟩ := T.desc h
  obtain ⟨K, td, by', cm⟩ := i
  simp only at hd; subst hd
  cases d <;> first | exact ⟨_, h1, h2⟩ | (simp at h2)

theorem un_sound {op : UnOp} {t : TypeId} {x : Operand} (ho : o.op = .unOp op t x) (h : unK op (ev x) (fun v => k v []) = some out) : ∃ v l, k v l = some out ∧ OpSem P o ev sub fresh v l := by
  have mx : x ∈ o.op.operands := by simp [Op.operands, ho]
  unfold unK at h
  split at h
  · rename_i b ex
    exact ⟨_, _, h, opsem_value fun X ac at_ => by
      have h1 := at_.opr x mx; rw [ex, RS.bool] at h1
      exact ⟨_, by simp [execOp, ho, h1, Op.unary] <;> rfl, RS.bool.2 rfl⟩⟩
  · rename_i q n ex
    exact ⟨_, _, h, opsem_value fun X ac at_ => by
      have h1 := at_.opr x mx; rw [ex, RS.int] at h1
      exact ⟨_, by simp [execOp, ho, h1, Op.unary, Op.intArith] <;> rfl, RS.int.2 (by simp)⟩⟩
  · rename_i q n ex
    exact ⟨_, _, h, opsem_value fun X ac at_ => by
      have h1 := at_.opr x mx; rw [ex, RS.int] at h1
      exact ⟨_, by simp only [execOp, ho, h1, Op.unary, Op.intBits, Sem.run_bind, Sem.run_pure, Result.andThen_ok]; rfl, RS.int.2 rfl⟩⟩
  · cases h

include T in
theorem TyOK.int {t : TypeId} {i : TI} {q : IntKind} (h : E.ty.lookup t = some i) (hd : i.K = .int q) : P.underlying t = some (.int q) := by
  obtain ⟨d, h1, h2⟩ := T.desc h
  obtain ⟨K, td, by', cm⟩ := i
  simp only at hd; subst hd
  cases d <;> cases td <;> simp at h2
  · subst h2; exact h1
  · rename_i fs ts; cases hf : fs.toList <;> cases ts <;> simp [hf, fieldsB] at h2

include T in
theorem TyOK.str {t : TypeId} {i : TI} (h : E.ty.lookup t = some i) (hd : i.K = .str) : P.underlying t = some .string := by
  obtain ⟨d, h1, h2⟩ := T.desc h
  obtain ⟨K, td, by', cm⟩ := i
  simp only at hd; subst hd
  cases d <;> cases td <;> simp at h2
  · exact h1
  · rename_i fs ts; cases hf : fs.toList <;> cases ts <;> simp [hf, fieldsB] at h2

theorem extract_sound {x : Operand} {i : Nat} (ho : o.op = .extract x i) (h : (match ev x with | .tup vs => (match vs[i]? with | some y => k y [] | none => none) | _ => none) = some out) :
    ∃ v l, k v l = some out ∧ OpSem P o ev sub fresh v l := by
  have mx : x ∈ o.op.operands := by simp [Op.operands, ho]
  split at h
  · rename_i vs ex
    split at h
    · rename_i y hy
      exact ⟨_, _, h, opsem_value fun X ac at_ => by
        have h1 := at_.opr x mx; rw [ex] at h1
        obtain ⟨us, h2, h3⟩ := h1
        obtain ⟨u, hu, hr⟩ := h3.get hy
        have hu' : us[i]? = some u := by simpa using hu
        refine ⟨u, by simp [execOp, ho, h2, Instr.extract, hu'], RS.of0 hr fun ws e => ?_⟩
        subst e
        rcases hr with hr | ⟨cs, h4, ⟨h5, _⟩ | ⟨_, h5⟩⟩
        · cases hr
        · cases h5
        · obtain ⟨_, rfl, h6⟩ := h4; exact h6⟩
    · cases h
  · cases h

theorem nilCheck_sound {x : Operand} (ho : o.op = .nilCheck x) (h : (match ev x with | .ptr id q => kindAt sub id q fun _ => k (.ptr id q) [] | .vp K y => k (.vp K y) [] | _ => none) = some out) :
    ∃ v l, k v l = some out ∧ OpSem P o ev sub fresh v l := by
  have mx : x ∈ o.op.operands := by simp [Op.operands, ho]
  split at h
  · rename_i id q ex
    obtain ⟨K', h, hs⟩ := kindAt_sound h
    exact ⟨_, _, h, opsem_value fun X ac at_ => by
      have h1 := at_.opr x mx; rw [ex] at h1
      obtain ⟨b, off, h2, _⟩ := hs X _ at_.sub ((RS.one (by simp) (by simp) (by simp) (by simp)).1 h1)
      exact ⟨_, by simp [execOp, ho, h2], h2 ▸ h1⟩⟩
  · rename_i K y ex
    exact ⟨_, _, h, opsem_value fun X ac at_ => by
      have h1 := at_.opr x mx; rw [ex] at h1
      have h2 := (RS.one (by simp) (by simp) (by simp) (by simp)).1 h1
      obtain ⟨ad, cs, h3, _⟩ := h2
      exact ⟨_, by simp [execOp, ho, h3], h3 ▸ h1⟩⟩
  · cases h

-- ------------------------------------------------------------ addresses

/-- The elements of a slice of data, by address. -/
theorem sl_elem {X : Cx} {K : Kind} {xs : List K.den} {v : Value} (h : RS X (.p (.sl K) xs) v) : ∃ ao cap, v = .slice ao xs.length cap ∧ xs.length ≤ cap ∧
    (0 < xs.length → ∃ ad css, ao = some ad ∧ X.F ad.block ∧ All2 (RP X.F X.w K) xs css ∧ ∀ j u, css.flatten[j]? = some u → X.w.cell? (ad.add j) = some u) := by
  obtain ⟨cs, h1, ⟨h2, _⟩ | ⟨_, h2⟩⟩ := (h.to0 (by simp)).data
  · cases h2
  · obtain ⟨ao, cap, h3, h4, h5⟩ := h1
    rw [h2] at h3; simp at h3
    exact ⟨ao, cap, h3, h4, h5⟩

theorem add_add (a : Addr) (m n : Nat) : (a.add m).add n = a.add (m + n) := by
  unfold Addr.add
  by_cases hm : m = 0
  · subst hm; simp
  · by_cases hn : n = 0
    · subst hn; simp [hm]
    · have : ¬ m + n = 0 := by omega
      simp [hm, hn, this, Nat.add_assoc]

theorem RS.vp {X : Cx} {K : Kind} {y : K.den} {ad : Addr} {cs : List Value} (hF : X.F ad.block) (h : RP X.F X.w K y cs) (hc : ∀ j u, cs[j]? = some u → X.w.cell? (ad.add j) = some u) : RS X (.vp K y) (.pointer (some ad)) :=
  (RS.one (by simp) (by simp) (by simp) (by simp)).2 ⟨ad, cs, rfl, hF, h, hc⟩

/-- An element among the cells of a list of data. -/
theorem elem_cells {F : Nat → Prop} {w w' : World} {K : Kind} {xs : List K.den} {css : List (List Value)} (h : All2 (RP F w K) xs css) {ad : Addr} (hc : ∀ j u, css.flatten[j]? = some u → w'.cell? (ad.add j) = some u) {i : Nat} {y : K.den}
    (hy : xs[i]? = some y) : ∃ cs, RP F w K y cs ∧ ∀ j u, cs[j]? = some u → w'.cell? ((ad.add (i * K.size)).add j) = some u := by
  obtain ⟨cs, h1, h2⟩ := h.get hy
  refine ⟨cs, h2, fun j u hj => ?_⟩
  rw [add_add]
  have hl := RP.length h2
  have hjl : j < cs.length := (List.getElem?_eq_some_iff.1 hj).1
  have e := flatten_cut h.lens h1 (o := 0) (n := K.size) (by omega)
  rw [Nat.add_zero, cut_all cs hl.symm] at e
  exact hc _ _ (cut_get (by rw [e]; exact hj))

include T in
theorem indexAddr_sound {t : TypeId} {x ix : Operand} (ho : o.op = .indexAddr t x ix) (h : indexAddrK E sub t (ev x) (ev ix) (fun v => k v []) = some out) : ∃ v l, k v l = some out ∧ OpSem P o ev sub fresh v l := by
  have mx : x ∈ o.op.operands := by simp [Op.operands, ho]
  have mi : ix ∈ o.op.operands := by simp [Op.operands, ho]
  obtain ⟨q, i, ei, h⟩ := asInt_sound h
  split at h
  · rename_i hi0
    obtain ⟨ti, hti, h⟩ := ti_sound h
    split at h
    · -- an array
      rename_i n e hd
      obtain ⟨hu, j, hj, hK, _⟩ := T.array hti hd
      have run : ∀ (ac : Act) (w : World) (ad : Addr), ac.eval x = .pointer (some ad) → ac.eval ix = .int q i → i < (n : Int) → (execOp ac.eval o).run P w = .ok (.value (.pointer (some (ad.add (i.toNat * j.K.size))))) w := fun ac w ad h1 h2 h3 => by
        simp [execOp, ho, Instr.indexAt, h1, h2, asIntOf, run_underlying hu, Instr.sureAddr, hi0, h3, T.runSize hj]
      split at h
      · rename_i hin
        have hlt : i.toNat < n := by omega
        split at h
        · rename_i id path ex
          obtain ⟨K', h, hs⟩ := kindAt_sound h
          split at h
          · rename_i hKe
            exact ⟨_, _, h, opsem_value fun X ac at_ => by
              have h1 := at_.opr x mx; rw [ex] at h1
              have h2 := at_.opr ix mi; rw [ei, RS.int] at h2
              obtain ⟨b, off, h3, h4⟩ := hs X _ at_.sub ((RS.one (by simp) (by simp) (by simp) (by simp)).1 h1)
              refine ⟨_, run ac X.w _ h3 h2 hin, (RS.one (by simp) (by simp) (by simp) (by simp)).2 ?_⟩
              rw [add_lit]
              exact h4 [.idx i.toNat] _ j.K (by rw [hKe, hK]; exact koff_idx hlt)⟩
          · cases h
        · rename_i n' e' l ex
          split at h
          · rename_i hKe
            obtain ⟨y, hy, h⟩ := Option.bind_eq_some_iff.1 h
            rw [hK] at hKe
            simp only [Kind.arr.injEq] at hKe
            obtain ⟨rfl, rfl⟩ := hKe
            exact ⟨_, _, h, opsem_value fun X ac at_ => by
              have h1 := at_.opr x mx; rw [ex] at h1
              have h2 := at_.opr ix mi; rw [ei, RS.int] at h2
              obtain ⟨ad, cs, h3, hF, ⟨hl, css, rfl, hr⟩, hc⟩ := (RS.one (by simp) (by simp) (by simp) (by simp)).1 h1
              obtain ⟨cs', h5, h6⟩ := elem_cells hr hc hy
              exact ⟨_, run ac X.w _ h3 h2 hin, RS.vp (by rw [add_block]; exact hF) h5 h6⟩⟩
          · cases h
        · cases h
      · cases h
    · -- a slice
      rename_i e hd
      obtain ⟨hu, j, hj, hK, _⟩ := T.slice hti hd
      have run : ∀ (ac : Act) (w : World) (ad : Addr) (len cap : Nat), ac.eval x = .slice (some ad) len cap → ac.eval ix = .int q i → i < (len : Int) → (execOp ac.eval o).run P w = .ok (.value (.pointer (some (ad.add (i.toNat * j.K.size))))) w := fun ac w ad len cap h1 h2 h3 => by
        simp [execOp, ho, Instr.indexAt, h1, h2, asIntOf, run_underlying hu, hi0, h3, T.runSize hj]
      split at h
      · rename_i K xs ex
        split at h
        · rename_i hKe
          obtain ⟨y, hy, h⟩ := Option.bind_eq_some_iff.1 h
          rw [hK] at hKe
          simp only [Kind.sl.injEq] at hKe
          subst hKe
          have h0 := (List.getElem?_eq_some_iff.1 hy).1
          have hlt : i < (xs.length : Int) := (Int.toNat_lt hi0).1 h0
          exact ⟨_, _, h, opsem_value fun X ac at_ => by
            have h1 := at_.opr x mx; rw [ex] at h1
            have h2 := at_.opr ix mi; rw [ei, RS.int] at h2
            obtain ⟨ao, cap, h3, _, h4⟩ := sl_elem h1
            obtain ⟨ad, css, rfl, hF, hr, hc⟩ := h4 (Nat.lt_of_le_of_lt (Nat.zero_le _) h0)
            obtain ⟨cs', h5, h6⟩ := elem_cells hr hc hy
            exact ⟨_, run ac X.w _ _ _ h3 h2 hlt, RS.vp (by rw [add_block]; exact hF) h5 h6⟩⟩
        · cases h
      · rename_i id ex
        obtain ⟨B, hB, h⟩ := look_sound h
        split at h
        · rename_i t' K xs
          split at h
          · rename_i hKe
            rw [hK] at hKe
            simp only [Kind.sl.injEq] at hKe
            subst hKe
            split at h
            · rename_i hlt
              exact ⟨_, _, h, opsem_value fun X ac at_ => by
                have h1 := at_.opr x mx; rw [ex] at h1
                have h2 := at_.opr ix mi; rw [ei, RS.int] at h2
                have hX := at_.sub _ _ hB
                rcases (R1_row hX).1 ((RS.one (by simp) (by simp) (by simp) (by simp)).1 h1) with ⟨_, h3, _⟩ | ⟨b, cap, cur, h3, h4, _⟩
                · omega
                · refine ⟨_, run ac X.w _ _ _ h4 h2 hlt, (RS.one (by simp) (by simp) (by simp) (by simp)).2 ?_⟩
                  rw [add_lit, Nat.zero_add]
                  exact (R1_ptrR hX).2 ⟨b, i.toNat, [], 0, j.K, rfl, by omega, h3, koff_nil _, rfl⟩⟩
            · cases h
          · cases h
        · cases h
      · rename_i id lo len ex
        obtain ⟨B, hB, h⟩ := look_sound h
        split at h
        · rename_i t' K xs
          split at h
          · rename_i hKe
            rw [hK] at hKe
            simp only [Kind.sl.injEq] at hKe
            subst hKe
            split at h
            · rename_i hlt
              exact ⟨_, _, h, opsem_value fun X ac at_ => by
                have h1 := at_.opr x mx; rw [ex] at h1
                have h2 := at_.opr ix mi; rw [ei, RS.int] at h2
                have hX := at_.sub _ _ hB
                obtain ⟨hle, ao, c, h3, _, h4⟩ := (R1_sub hX).1 ((RS.one (by simp) (by simp) (by simp) (by simp)).1 h1)
                obtain ⟨b, h5, rfl⟩ := h4 (by omega)
                refine ⟨_, run ac X.w _ _ _ h3 h2 hlt, (RS.one (by simp) (by simp) (by simp) (by simp)).2 ?_⟩
                rw [add_lit]
                exact (R1_ptrR hX).2 ⟨b, lo + i.toNat, [], 0, j.K, rfl, by omega, h5, koff_nil _, by rw [Nat.add_mul]; rfl⟩⟩
            · cases h
          · cases h
        · cases h
      · rename_i id path lo len ex
        obtain ⟨B, hB, h⟩ := look_sound h
        split at h
        · rename_i t' K av
          split at h
          · rename_i m e' hk
            split at h
            · rename_i hKe
              rw [hK] at hKe
              simp only [Kind.sl.injEq] at hKe
              subst hKe
              split at h
              · rename_i hlt
                exact ⟨_, _, h, opsem_value fun X ac at_ => by
                  have h1 := at_.opr x mx; rw [ex] at h1
                  have h2 := at_.opr ix mi; rw [ei, RS.int] at h2
                  have hX := at_.sub _ _ hB
                  obtain ⟨b, off, n', e', h3, h4, hle, ao, c, h5, _, h6⟩ := (R1_slc hX).1 ((RS.one (by simp) (by simp) (by simp) (by simp)).1 h1)
                  have h7 := kat_koff h4
                  rw [hk] at h7
                  simp only [Option.some.injEq, Kind.arr.injEq] at h7
                  obtain ⟨rfl, rfl⟩ := h7
                  obtain rfl := h6 (by omega)
                  refine ⟨_, run ac X.w _ _ _ h5 h2 hlt, (RS.one (by simp) (by simp) (by simp) (by simp)).2 ?_⟩
                  rw [add_lit]
                  exact (R1_ptr hX).2 ⟨b, off + (lo + i.toNat) * j.K.size, j.K, h3, koff_append h4 (koff_idx (by omega)), by rw [Nat.add_mul, Nat.add_assoc]⟩⟩
              · cases h
            · cases h
          · cases h
        · cases h
      · cases h
    · cases h
  · cases h
end
end Go.Ev
