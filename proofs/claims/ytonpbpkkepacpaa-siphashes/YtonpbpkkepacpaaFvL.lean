/-
  THE EVALUATOR's OPERATIONS ARE THE MODEL's, MORE: parts of slices, the least and the greatest, stores, append.
-/
import Derived.Test.YtonpbpkkepacpaaFvK
set_option linter.all false
namespace Go.Ev
variable {A : Type}

theorem lowK_sound {out : A} {lo : Option AV} {hn : Nat} {k : Nat → Option A} (h : lowK lo hn k = some out) :
    ∃ l, k l = some out ∧ l ≤ hn ∧ ∀ (P : Program) (X : Cx) (w : World), (lo = none ∨ ∃ a, lo = some a ∧ ∀ v, RS X a v → (Instr.sliceBound v hn .sliceB).run P w = .ok l w) ∧ (lo = none → l = 0) := by
  unfold lowK at h
  split at h
  · exact ⟨0, h, Nat.zero_le _, fun _ _ _ => ⟨.inl rfl, fun _ => rfl⟩⟩
  · rename_i a
    obtain ⟨q, i, rfl, g⟩ := asInt_sound h
    split at g
    · rename_i h0
      split at g
      · rename_i h1
        refine ⟨i.toNat, g, by omega, fun P X w => ⟨.inr ⟨_, rfl, fun v hv => ?_⟩, fun h => by cases h⟩⟩
        rw [RS.int] at hv
        subst hv
        exact run_sliceBound w q i hn .sliceB h0 h1
      · cases g
    · cases g

theorem boundsK_sound {out : A} {len : Nat} {lo hi : Option AV} {k : Nat → Nat → Option A} (h : boundsK len lo hi k = some out) :
    ∃ l h', k l h' = some out ∧ l ≤ h' ∧ h' ≤ len ∧ ∀ (P : Program) (X : Cx) (vl vh : Option Value) (isS : Bool) (cap : Nat) (w : World), (lo.isSome = vl.isSome) → (hi.isSome = vh.isSome) →
      (∀ a v, lo = some a → vl = some v → RS X a v) → (∀ a v, hi = some a → vh = some v → RS X a v) → len ≤ cap → (Instr.sliceBounds isS len cap vl vh none).run P w = .ok (l, h', cap) w := by
  unfold boundsK at h
  split at h
  · obtain ⟨l, h1, h2, h3⟩ := lowK_sound h
    refine ⟨l, len, h1, h2, Nat.le_refl _, fun P X vl vh isS cap w hs1 hs2 hr1 hr2 hc => ?_⟩
    cases vh with
    | some v => simp at hs2
    | none =>
      obtain ⟨h4, h5⟩ := h3 P X w
      cases vl with
      | none =>
        cases lo with
        | some _ => simp at hs1
        | none => simp [Instr.sliceBounds, h5 rfl]
      | some v =>
        rcases h4 with rfl | ⟨a, rfl, h4⟩
        · simp at hs1
        · simp [Instr.sliceBounds, h4 v (hr1 _ _ rfl rfl)]
  · rename_i a
    obtain ⟨q, i, rfl, g⟩ := asInt_sound h
    split at g
    · rename_i h0
      split at g
      · rename_i h1
        obtain ⟨l, h2, h3, h4⟩ := lowK_sound g
        refine ⟨l, i.toNat, h2, h3, by omega, fun P X vl vh isS cap w hs1 hs2 hr1 hr2 hc => ?_⟩
        cases vh with
        | none => simp at hs2
        | some v =>
          have e := hr2 _ _ rfl rfl
          rw [RS.int] at e
          subst e
          have hb : ∀ code, (Instr.sliceBound (.int q i) cap code).run P w = .ok i.toNat w := fun code => run_sliceBound w q i cap code h0 (by omega)
          obtain ⟨h5, h6⟩ := h4 P X w
          cases vl with
          | none =>
            cases lo with
            | some _ => simp at hs1
            | none => simp [Instr.sliceBounds, hb, h6 rfl]
          | some v =>
            rcases h5 with rfl | ⟨a, rfl, h5⟩
            · simp at hs1
            · simp [Instr.sliceBounds, hb, h5 v (hr1 _ _ rfl rfl)]
      · cases g
    · cases g

section
variable {P : Program} {E : Env A} (T : TyOK P E) {o : Oper} {ev : Operand → AV} {sub : List (Nat × Blk)} {fresh : Nat} {k : Cont A} {out : A}

include T in
theorem slice_sound {t : TypeId} {x : Operand} {lo hi : Option Operand} (ho : o.op = .slice t x lo hi none) (h : sliceK E sub t (ev x) (lo.map ev) (hi.map ev) (fun v => k v []) = some out) : ∃ v l, k v l = some out ∧ OpSem P o ev sub fresh v l := by
  have mx : x ∈ o.op.operands := by simp [Op.operands, ho]
  have ml : ∀ y, lo = some y → y ∈ o.op.operands := fun y e => by simp [Op.operands, ho, e]
  have mh : ∀ y, hi = some y → y ∈ o.op.operands := fun y e => by simp [Op.operands, ho, e]
  have hlo : ∀ (X : Cx) (ac : Act), At X ac o ev sub → ∀ a v, lo.map ev = some a → lo.map ac.eval = some v → RS X a v := fun X ac at_ a v h1 h2 => by
    cases hl : lo with
    | none => rw [hl] at h1; cases h1
    | some y => rw [hl] at h1 h2; simp at h1 h2; subst h1; subst h2; exact at_.opr y (ml y hl)
  have hhi : ∀ (X : Cx) (ac : Act), At X ac o ev sub → ∀ a v, hi.map ev = some a → hi.map ac.eval = some v → RS X a v := fun X ac at_ a v h1 h2 => by
    cases hl : hi with
    | none => rw [hl] at h1; cases h1
    | some y => rw [hl] at h1 h2; simp at h1 h2; subst h1; subst h2; exact at_.opr y (mh y hl)
  obtain ⟨ti, hti, h⟩ := ti_sound h
  split at h
  · rename_i e hd
    obtain ⟨hu, j, hj, hK, hpos, _⟩ := T.slice hti hd
    -- a slice's part
    have run : ∀ {len : Nat} {kk : Nat → Nat → Option A}, boundsK len (lo.map ev) (hi.map ev) kk = some out → ∃ l h', kk l h' = some out ∧ l ≤ h' ∧ h' ≤ len ∧ ∀ (X : Cx) (ac : Act), At X ac o ev sub → ∀ ao cap, ac.eval x = .slice ao len cap → len ≤ cap →
        (execOp ac.eval o).run P X.w = .ok (.value (.slice (if cap = l then ao else ao.map (·.add (l * j.K.size))) (h' - l) (cap - l))) X.w := fun {len kk} hb => by
      obtain ⟨l, h', h1, h2, h3, h4⟩ := boundsK_sound hb
      refine ⟨l, h', h1, h2, h3, fun X ac at_ ao cap h5 h6 => ?_⟩
      have h7 := h4 P X (lo.map ac.eval) (hi.map ac.eval) true cap X.w (by simp) (by simp) (hlo X ac at_) (hhi X ac at_) h6
      simp [execOp, ho, Instr.sliceAt, run_underlying hu, Instr.slice, h5, h7, T.runSize hj]
    split at h
    · rename_i K xs ex
      split at h
      · rename_i hKe
        rw [hK] at hKe
        simp only [Kind.sl.injEq] at hKe
        subst hKe
        obtain ⟨l, h', h, hlh, hhl, hr⟩ := run h
        exact ⟨_, _, h, opsem_value fun X ac at_ => by
          have h1 := at_.opr x mx; rw [ex] at h1
          obtain ⟨ao, cap, h3, hcap, h4⟩ := sl_elem h1
          refine ⟨_, hr X ac at_ ao cap h3 hcap, ?_⟩
          have hlen : ((xs.drop l).take (h' - l)).length = h' - l := by simp; omega
          refine .of0 (.inr ⟨[_], ⟨_, cap - l, by rw [hlen], by omega, fun hp => ?_⟩, .inr ⟨rfl, rfl⟩⟩) (by simp)
          rw [hlen] at hp
          obtain ⟨ad, css, rfl, hF, h5, h6⟩ := h4 (by omega)
          rw [if_neg (by omega)]
          refine ⟨ad.add (l * j.K.size), (css.drop l).take (h' - l), rfl, by rw [add_block]; exact hF, (h5.drop l).take _, fun m u hm => ?_⟩
          rw [add_add]
          exact h6 _ _ (part_get h5.lens hm)⟩
      · cases h
    · rename_i id ex
      obtain ⟨B, hB, h⟩ := look_sound h
      split at h
      · rename_i t' K xs
        split at h
        · rename_i hKe
          rw [hK] at hKe
          simp only [Kind.sl.injEq] at hKe
          subst hKe
          obtain ⟨l, h', h, hlh, hhl, hr⟩ := run h
          exact ⟨_, _, h, opsem_value fun X ac at_ => by
            have h1 := at_.opr x mx; rw [ex] at h1
            have hX := at_.sub _ _ hB
            rcases (R1_row hX).1 ((RS.one (by simp) (by simp) (by simp) (by simp)).1 h1) with ⟨_, h3, h4⟩ | ⟨b, cap, cur, h3, h4, _, _, h5⟩
            · refine ⟨_, hr X ac at_ none 0 (by rw [h4, h3]) (Nat.le_of_eq h3), (RS.one (by simp) (by simp) (by simp) (by simp)).2 ((R1_sub hX).2 ⟨by omega, _, _, rfl, by omega, fun hp => by omega⟩)⟩
            · refine ⟨_, hr X ac at_ _ _ h4 h5, (RS.one (by simp) (by simp) (by simp) (by simp)).2 ((R1_sub hX).2 ⟨by omega, _, _, rfl, by omega, fun hp => ⟨b, h3, ?_⟩⟩)⟩
              rw [if_neg (by omega), Option.map_some, add_lit, Nat.zero_add]⟩
        · cases h
      · cases h
    · rename_i id a n ex
      obtain ⟨B, hB, h⟩ := look_sound h
      split at h
      · rename_i t' K xs
        split at h
        · rename_i hKe
          rw [hK] at hKe
          simp only [Kind.sl.injEq] at hKe
          subst hKe
          obtain ⟨l, h', h, hlh, hhl, hr⟩ := run h
          exact ⟨_, _, h, opsem_value fun X ac at_ => by
            have h1 := at_.opr x mx; rw [ex] at h1
            have hX := at_.sub _ _ hB
            obtain ⟨hle, ao, c, h3, h4, h5⟩ := (R1_sub hX).1 ((RS.one (by simp) (by simp) (by simp) (by simp)).1 h1)
            refine ⟨_, hr X ac at_ _ _ h3 h4, (RS.one (by simp) (by simp) (by simp) (by simp)).2 ((R1_sub hX).2 ⟨by omega, _, _, rfl, by omega, fun hp => ?_⟩)⟩
            obtain ⟨b, h6, rfl⟩ := h5 (by omega)
            refine ⟨b, h6, ?_⟩
            rw [if_neg (by omega), Option.map_some, add_lit, Nat.add_mul]⟩
        · cases h
      · cases h
    · rename_i id path a n ex
      obtain ⟨B, hB, h⟩ := look_sound h
      split at h
      · rename_i t' K av
        split at h
        · rename_i m e' hk
          split at h
          · rename_i hKe
            rw [hK] at hKe
            simp only [Kind.sl.injEq] at hKe
            subst hKe
            obtain ⟨l, h', h, hlh, hhl, hr⟩ := run h
            exact ⟨_, _, h, opsem_value fun X ac at_ => by
              have h1 := at_.opr x mx; rw [ex] at h1
              have hX := at_.sub _ _ hB
              obtain ⟨b, off, n', e', h3, h4, hle, ao, c, h5, h6, h7⟩ := (R1_slc hX).1 ((RS.one (by simp) (by simp) (by simp) (by simp)).1 h1)
              have h8 := kat_koff h4
              rw [hk] at h8
              simp only [Option.some.injEq, Kind.arr.injEq] at h8
              obtain ⟨rfl, rfl⟩ := h8
              refine ⟨_, hr X ac at_ _ _ h5 h6, (RS.one (by simp) (by simp) (by simp) (by simp)).2 ((R1_slc hX).2 ⟨b, off, _, _, h3, h4, by omega, _, _, rfl, by omega, fun hp => ?_⟩)⟩
              obtain rfl := h7 (by omega)
              rw [if_neg (by omega), Option.map_some, add_lit, Nat.add_mul, Nat.add_assoc]⟩
          · cases h
        · cases h
      · cases h
    · cases h
  · rename_i n e hd
    obtain ⟨hu, j, hj, hK, hpos⟩ := T.array hti hd
    split at h
    · rename_i id path ex
      obtain ⟨B, hB, h⟩ := look_sound h
      split at h
      · rename_i t' K av
        split at h
        · rename_i K' hk
          split at h
          · rename_i hKe
            subst hKe
            obtain ⟨l, h', h, hlh, hhl, h4⟩ := boundsK_sound h
            exact ⟨_, _, h, opsem_value fun X ac at_ => by
              have h1 := at_.opr x mx; rw [ex] at h1
              have hX := at_.sub _ _ hB
              obtain ⟨b, off, K1, h5, h6, h7⟩ := (R1_ptr hX).1 ((RS.one (by simp) (by simp) (by simp) (by simp)).1 h1)
              have h8 := kat_koff h6
              rw [hk, hK] at h8
              simp only [Option.some.injEq] at h8
              subst h8
              have h9 := h4 P X (lo.map ac.eval) (hi.map ac.eval) false n X.w (by simp) (by simp) (hlo X ac at_) (hhi X ac at_) (Nat.le_refl _)
              refine ⟨.slice (some (if n = l then ⟨b, off, none⟩ else (⟨b, off, none⟩ : Addr).add (l * j.K.size))) (h' - l) (n - l), ?_, (RS.one (by simp) (by simp) (by simp) (by simp)).2 ((R1_slc hX).2 ⟨b, off, _, _, h5, h6, by omega, _, _, rfl, by omega, fun hp => ?_⟩)⟩
              · simp [execOp, ho, Instr.sliceAt, run_underlying hu, h7, Instr.sureAddr, h9, T.runSize hj]
              · rw [if_neg (by omega), add_lit]⟩
          · cases h
        · cases h
      · cases h
    · cases h
  · split at h
    · rename_i s ex
      split at h
      · rename_i hKe
        have hu := T.str hti hKe.symm
        obtain ⟨l, h', h, hlh, hhl, h4⟩ := boundsK_sound h
        exact ⟨_, _, h, opsem_value fun X ac at_ => by
          have h1 := at_.opr x mx; rw [ex, RS.str] at h1
          have h9 := h4 P X (lo.map ac.eval) (hi.map ac.eval) false s.size X.w (by simp) (by simp) (hlo X ac at_) (hhi X ac at_) (Nat.le_refl _)
          exact ⟨_, by simp [execOp, ho, Instr.sliceAt, run_underlying hu, Instr.slice, h1, h9] <;> rfl, RS.str.2 rfl⟩⟩
      · cases h
    · cases h
  · cases h

-- ------------------------------------------------------------ the least, the greatest

theorem fold_sound {f : Int → Int → Int} {g : Value → Value → Sem Value} (hg : ∀ q a b (w : World), (g (.int q a) (.int q b)).run P w = .ok (.int q (f a b)) w) :
    ∀ (rest : List Operand) (v : AV) (kk : AV → Option A), foldInt f (rest.map ev) v kk = some out → ∃ v', kk v' = some out ∧ ∀ (X : Cx) (ac : Act) (u : Value), (∀ x ∈ rest, RS X (ev x) (ac.eval x)) → RS X v u →
      ∃ u', ((rest.map ac.eval).foldlM g u).run P X.w = .ok u' X.w ∧ RS X v' u'
  | [], v, kk, h => ⟨v, h, fun X ac u _ hu => ⟨u, rfl, hu⟩⟩
  | x :: r, v, kk, h => by
    simp only [List.map_cons, foldInt] at h
    split at h
    · rename_i _ q a q' b ex
      split at h
      · rename_i hq; subst hq
        obtain ⟨v', h1, h2⟩ := fold_sound hg r _ kk h
        refine ⟨v', h1, fun X ac u hr hu => ?_⟩
        have e1 := hr x (by simp)
        rw [ex, RS.int] at e1
        rw [RS.int] at hu
        obtain ⟨u', h3, h4⟩ := h2 X ac (.int q (f a b)) (fun y hy => hr y (by simp [hy])) (RS.int.2 rfl)
        exact ⟨u', by simp [hu, e1, hg, h3], h4⟩
      · cases h
    · cases h

theorem minmax_sound {b : Builtin} {f : Int → Int → Int} {x : Operand} {rest : List Operand} {c : Call} (ho : o.op = .call c) (hc : c.callee = .builtin b) (ha : c.args.toList = x :: rest)
    (hb : (b = .min ∧ f = imin) ∨ (b = .max ∧ f = imax)) (h : foldInt f (rest.map ev) (ev x) (fun v => k v []) = some out) : ∃ v l, k v l = some out ∧ OpSem P o ev sub fresh v l := by
  have ha' : c.args = (x :: rest).toArray := Array.toList_inj.1 (by simpa using ha)
  have mx : ∀ y ∈ x :: rest, y ∈ o.op.operands := fun y hy => by simp [Op.operands, ho, Call.operands, hc, ha']; simpa using hy
  rcases hb with ⟨rfl, rfl⟩ | ⟨rfl, rfl⟩
  · obtain ⟨v', h1, h2⟩ := fold_sound (P := P) (g := Builtin.min2) (fun q a b w => by simp [Builtin.min2, imin]) rest _ _ h
    refine ⟨_, _, h1, opsem_value fun X ac at_ => ?_⟩
    obtain ⟨u, h3, h4⟩ := h2 X ac (ac.eval x) (fun y hy => at_.opr y (mx y (by simp [hy]))) (at_.opr x (mx x (by simp)))
    exact ⟨u, by simp [execOp, ho, resolve, hc, ha', invoke, builtin, Builtin.min_, h3], h4⟩
  · obtain ⟨v', h1, h2⟩ := fold_sound (P := P) (g := Builtin.max2) (fun q a b w => by simp [Builtin.max2, imax]) rest _ _ h
    refine ⟨_, _, h1, opsem_value fun X ac at_ => ?_⟩
    obtain ⟨u, h3, h4⟩ := h2 X ac (ac.eval x) (fun y hy => at_.opr y (mx y (by simp [hy]))) (at_.opr x (mx x (by simp)))
    exact ⟨u, by simp [execOp, ho, resolve, hc, ha', invoke, builtin, Builtin.max_, h3], h4⟩

end
end Go.Ev
