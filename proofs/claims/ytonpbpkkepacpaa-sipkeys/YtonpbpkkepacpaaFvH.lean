/-
  THE EVALUATOR's OPERATIONS ARE THE MODEL's, MORE: data held against data; parts of data; loads.
-/
import Derived.Test.YtonpbpkkepacpaaFvG
import Derived.DeepKeys
set_option linter.all false
namespace Go.Ev

theorem extract_cut (cs : List Value) (off n : Nat) : (cs.toArray.extract off (off + n)) = (cut cs off n).toArray := by
  apply Array.ext'
  simp [cut, List.extract]

theorem cut_one {cs : List Value} {off : Nat} {v : Value} (h : cut cs off 1 = [v]) : cs[off]? = some v := by
  have : (cut cs off 1)[0]? = some v := by rw [h]; rfl
  simpa [cut] using this

theorem cut_get {cs : List Value} {off n j : Nat} {v : Value} (h : (cut cs off n)[j]? = some v) : cs[off + j]? = some v := by
  simp only [cut, List.getElem?_take] at h
  split at h
  · simpa using h
  · cases h

theorem fits_size {av : AV} {K : Kind} (h : av.fits K = true) (ha : K.isAgg = false) : K.size = 1 := by
  cases K <;> simp [Kind.isAgg] at ha <;> rfl

theorem toList_inj {a b : ByteArray} : a.toList = b.toList ↔ a = b := by
  rw [ByteArray.toList_eq, ByteArray.toList_eq]
  constructor
  · intro h; obtain ⟨a⟩ := a; obtain ⟨b⟩ := b; congr 1; exact Array.ext' h
  · rintro rfl; rfl

variable {A : Type}

section
variable {P : Program} {E : Env A} (T : TyOK P E) {X : Cx}
include T

theorem part_sound {t : TypeId} {i : TI} (hi : E.ty.lookup t = some i) {y : AV} {cs : List Value} {off : Nat} (hf : y.fits i.K = true) (h : RA X y (cut cs off i.K.size)) (w : World) :
    ∃ v, (part t cs.toArray off).run P w = .ok v w ∧ RS0 X y v := by
  cases ha : i.K.isAgg with
  | true =>
    refine ⟨.agg (cut cs off i.K.size).toArray, ?_, ?_⟩
    · simp [part, T.agg hi, ha, T.runSize hi]
      rfl
    · cases hy : y.isAny with
      | true => exact .inl hy
      | false => exact .inr ⟨_, h, .inl ⟨by rw [fits_agg hf hy, ha], rfl⟩⟩
  | false =>
    have h1 := fits_size hf ha
    have hl := RA.length hf h
    rw [h1] at h hl
    match hc : cut cs off 1, hl with
    | [v], _ =>
      have h2 := cut_one hc
      refine ⟨v, ?_, ?_⟩
      · simp [part, T.agg hi, ha, h2]
      · cases hy : y.isAny with
        | true => exact .inl hy
        | false => exact .inr ⟨[v], by rw [hc] at h; exact h, .inr ⟨by rw [fits_agg hf hy, ha], rfl⟩⟩

theorem load_sound {t : TypeId} {i : TI} (hi : E.ty.lookup t = some i) {y : AV} {cs : List Value} {ad : Addr} (hf : y.fits i.K = true) (h : RA X y cs) {w : World}
    (hc : ∀ j u, cs[j]? = some u → w.cell? (ad.add j) = some u) : ∃ v, (loadVar t ad).run P w = .ok v w ∧ RS0 X y v := by
  have hl := RA.length hf h
  cases ha : i.K.isAgg with
  | true =>
    refine ⟨.agg cs.toArray, ?_, ?_⟩
    · have := run_loadCells_list (P := P) w ad cs hc
      rw [hl] at this
      simp [loadVar, T.agg hi, ha, T.runSize hi, this]
    · cases hy : y.isAny with
      | true => exact .inl hy
      | false => exact .inr ⟨_, h, .inl ⟨by rw [fits_agg hf hy, ha], rfl⟩⟩
  | false =>
    rw [fits_size hf ha] at hl
    match cs, hl with
    | [v], _ =>
      have h2 : w.cell? ad = some v := hc 0 v rfl
      refine ⟨v, ?_, ?_⟩
      · simp [loadVar, T.agg hi, ha, h2]
      · cases hy : y.isAny with
        | true => exact .inl hy
        | false => exact .inr ⟨[v], h, .inr ⟨by rw [fits_agg hf hy, ha], rfl⟩⟩

omit T in
/-- Data in one value, taken apart. -/
theorem RS0.data {K : Kind} {x : K.den} {v : Value} (h : RS0 X (.p K x) v) : ∃ cs, RP X.F X.w K x cs ∧ ((K.isAgg = true ∧ v = .agg cs.toArray) ∨ (K.isAgg = false ∧ cs = [v])) := by
  rcases h with h | ⟨cs, h1, h2⟩
  · cases h
  · exact ⟨cs, h1, h2⟩

theorem eqItems_sound {d : Nat} {e : TypeId} {j : TI} (hj : E.ty.lookup e = some j) {l1 l2 : List j.K.den} {css1 css2 : List (List Value)} (h1 : All2 (RP X.F X.w j.K) l1 css1) (h2 : All2 (RP X.F X.w j.K) l2 css2)
    (ih : ∀ (x y : j.K.den) (a b : Value) (w : World), RS0 X (.p j.K x) a → RS0 X (.p j.K y) b → ∃ r : Bool, (Op.equalIn d e a b).run P w = .ok r w ∧ (r = true ↔ x = y)) (w : World) :
    ∀ is : List Nat, (∀ i ∈ is, i < l1.length ∧ i < l2.length) → ∃ r : Bool, (Op.eqItems d e (P.cellsOf e) css1.flatten.toArray css2.flatten.toArray is).run P w = .ok r w ∧ (r = true ↔ ∀ i ∈ is, l1[i]? = l2[i]?)
  | [], _ => ⟨true, by simp [Op.eqItems], by simp⟩
  | i :: is, hb => by
    obtain ⟨hb1, hb2⟩ := hb i (by simp)
    obtain ⟨c1, hc1, hr1⟩ := h1.get (List.getElem?_eq_getElem hb1)
    obtain ⟨c2, hc2, hr2⟩ := h2.get (List.getElem?_eq_getElem hb2)
    have e1 : cut css1.flatten (i * P.cellsOf e) j.K.size = c1 := by
      rw [T.cellsOf hj]
      have := flatten_cut h1.lens hc1 (o := 0) (n := j.K.size) (by omega)
      rw [Nat.add_zero] at this
      rw [this, cut_all _ (RP.length hr1).symm]
    have e2 : cut css2.flatten (i * P.cellsOf e) j.K.size = c2 := by
      rw [T.cellsOf hj]
      have := flatten_cut h2.lens hc2 (o := 0) (n := j.K.size) (by omega)
      rw [Nat.add_zero] at this
      rw [this, cut_all _ (RP.length hr2).symm]
    obtain ⟨a, p1, f1⟩ := part_sound T hj (X := X) (y := .p j.K l1[i]) (by simp [AV.fits]) (by rw [e1]; exact hr1) w
    obtain ⟨b, p2, f2⟩ := part_sound T hj (X := X) (y := .p j.K l2[i]) (by simp [AV.fits]) (by rw [e2]; exact hr2) w
    obtain ⟨r, hr, hiff⟩ := ih _ _ a b w f1 f2
    obtain ⟨r', hr', hiff'⟩ := eqItems_sound hj h1 h2 ih w is fun i hi => hb i (by simp [hi])
    simp only [Op.eqItems, Sem.run_bind, p1, p2, hr, Result.andThen_ok]
    cases r
    · refine ⟨false, by simp, by simp; intro h; exact absurd h (by simpa [List.getElem?_eq_getElem hb1, List.getElem?_eq_getElem hb2] using hiff)⟩
    · refine ⟨r', by simpa using hr', ?_⟩
      rw [hiff']
      have := hiff.1 rfl
      simp [List.getElem?_eq_getElem hb1, List.getElem?_eq_getElem hb2, this]

theorem eqFields_sound {d : Nat} {cs1 cs2 : List Value} {Q : TypeId → Prop}
    (ih : ∀ (t : TypeId) (i : TI), E.ty.lookup t = some i → Q t → ∀ (x y : i.K.den) (a b : Value) (w : World), RS0 X (.p i.K x) a → RS0 X (.p i.K y) b → ∃ r : Bool, (Op.equalIn d t a b).run P w = .ok r w ∧ (r = true ↔ x = y)) (w : World) :
    ∀ (fs : List Field) (ts : List TypeId) (K : Kind) (off : Nat) (x y : K.den), fieldsB E.ty fs ts K off = true → (∀ f ∈ fs, f.name ≠ "_" ∧ Q f.type) →
      RP X.F X.w K x (cs1.drop off) → RP X.F X.w K y (cs2.drop off) → ∃ r : Bool, (Op.eqFields d cs1.toArray cs2.toArray fs).run P w = .ok r w ∧ (r = true ↔ x = y)
  | [], [], .unit, off, x, y, _, _, _, _ => ⟨true, by simp [Op.eqFields], by simp⟩
  | f :: fs, t :: ts, .pair a b, off, x, y, hb, hn, hx, hy => by
    simp only [fieldsB, Bool.and_eq_true, beq_iff_eq, decide_eq_true_eq] at hb
    obtain ⟨⟨⟨⟨rfl, rfl⟩, hpos⟩, hl⟩, hb⟩ := hb
    obtain ⟨j, hj, hjK⟩ : ∃ j, E.ty.lookup f.type = some j ∧ j.K = a := by
      cases h : E.ty.lookup f.type with
      | none => rw [h] at hl; cases hl
      | some j => rw [h] at hl; exact ⟨j, rfl, by simpa using hl⟩
    subst hjK
    obtain ⟨c1, c1', e1, hx1, hx2⟩ := hx
    obtain ⟨c2, c2', e2, hy1, hy2⟩ := hy
    have l1 := RP.length hx1; have l2 := RP.length hy1
    have q1 : cut cs1 f.offset j.K.size = c1 := by unfold cut; rw [e1, ← l1]; simp
    have q2 : cut cs2 f.offset j.K.size = c2 := by unfold cut; rw [e2, ← l2]; simp
    have d1 : cs1.drop (f.offset + j.K.size) = c1' := by rw [← List.drop_drop, e1, ← l1]; simp
    have d2 : cs2.drop (f.offset + j.K.size) = c2' := by rw [← List.drop_drop, e2, ← l2]; simp
    obtain ⟨a1, p1, f1⟩ := part_sound T hj (X := X) (y := .p j.K x.1) (by simp [AV.fits]) (by rw [q1]; exact hx1) w
    obtain ⟨a2, p2, f2⟩ := part_sound T hj (X := X) (y := .p j.K y.1) (by simp [AV.fits]) (by rw [q2]; exact hy1) w
    obtain ⟨hn1, hn2⟩ := hn f (by simp)
    obtain ⟨r, hr, hiff⟩ := ih f.type j hj hn2 _ _ a1 a2 w f1 f2
    obtain ⟨r', hr', hiff'⟩ := eqFields_sound ih w fs ts b _ x.2 y.2 hb (fun g hg => hn g (by simp [hg])) (by rw [d1]; exact hx2) (by rw [d2]; exact hy2)
    simp only [Op.eqFields, if_pos hn1, Sem.run_bind, p1, p2, hr, Result.andThen_ok]
    have hp : x = y ↔ x.1 = y.1 ∧ x.2 = y.2 := Prod.ext_iff
    cases r
    · refine ⟨false, by simp, ?_⟩
      rw [hp]; constructor
      · intro h; cases h
      · rintro ⟨h, _⟩; exact hiff.2 h
    · refine ⟨r', by simpa using hr', ?_⟩
      rw [hiff', hp]; simp [hiff.1 rfl]
  | [], _ :: _, _, _, _, _, hb, _, _, _ => by simp [fieldsB] at hb
  | _ :: _, [], _, _, _, _, hb, _, _, _ => by simp [fieldsB] at hb
  | [], [], .int _, _, _, _, hb, _, _, _ => by simp [fieldsB] at hb
  | [], [], .bool, _, _, _, hb, _, _, _ => by simp [fieldsB] at hb
  | [], [], .str, _, _, _, hb, _, _, _ => by simp [fieldsB] at hb
  | [], [], .opq, _, _, _, hb, _, _, _ => by simp [fieldsB] at hb
  | [], [], .pair _ _, _, _, _, hb, _, _, _ => by simp [fieldsB] at hb
  | [], [], .arr _ _, _, _, _, hb, _, _, _ => by simp [fieldsB] at hb
  | [], [], .sl _, _, _, _, hb, _, _, _ => by simp [fieldsB] at hb
  | _ :: _, _ :: _, .int _, _, _, _, hb, _, _, _ => by simp [fieldsB] at hb
  | _ :: _, _ :: _, .bool, _, _, _, hb, _, _, _ => by simp [fieldsB] at hb
  | _ :: _, _ :: _, .str, _, _, _, hb, _, _, _ => by simp [fieldsB] at hb
  | _ :: _, _ :: _, .opq, _, _, _, hb, _, _, _ => by simp [fieldsB] at hb
  | _ :: _, _ :: _, .unit, _, _, _, hb, _, _, _ => by simp [fieldsB] at hb
  | _ :: _, _ :: _, .arr _ _, _, _, _, hb, _, _, _ => by simp [fieldsB] at hb
  | _ :: _, _ :: _, .sl _, _, _, _, hb, _, _, _ => by simp [fieldsB] at hb

/-- '==' of data. -/
theorem equalIn_sound : ∀ (m : Nat) (t : TypeId) (i : TI), E.ty.lookup t = some i → P.keyTypeAt m t = true → ∀ (d : Nat) (x y : i.K.den) (a b : Value) (w : World),
    RS0 X (.p i.K x) a → RS0 X (.p i.K y) b → ∃ r : Bool, (Op.equalIn (d + m) t a b).run P w = .ok r w ∧ (r = true ↔ x = y)
  | 0, _, _, _, hk => by simp [Program.keyTypeAt] at hk
  | m + 1, t, i, hi, hk => by
    intro d x y a b w ha hb
    obtain ⟨ds, hu, hd⟩ := T.desc hi
    obtain ⟨K, td, by', cm⟩ := i
    simp only at x y ha hb hd
    simp only [Program.keyTypeAt, hu] at hk
    obtain ⟨c1, r1, v1⟩ := ha.data
    obtain ⟨c2, r2, v2⟩ := hb.data
    cases ds with
    | bool =>
      cases td <;> cases K <;> simp at hd
      simp only [RP] at r1 r2; subst r1; subst r2
      rcases v1 with ⟨h, _⟩ | ⟨_, h1⟩; · cases h
      rcases v2 with ⟨h, _⟩ | ⟨_, h2⟩; · cases h
      simp at h1 h2; subst h1; subst h2
      exact ⟨_, run_equalIn_bool' w (d + m) t _ _ hu, by simp⟩
    | int k =>
      cases td <;> cases K <;> simp at hd
      simp only [RP] at r1 r2; subst r1; subst r2
      rcases v1 with ⟨h, _⟩ | ⟨_, h1⟩; · cases h
      rcases v2 with ⟨h, _⟩ | ⟨_, h2⟩; · cases h
      simp at h1 h2; subst h1; subst h2
      exact ⟨_, run_equalIn_int w (d + m) t _ k _ _ hu, by simp⟩
    | string =>
      cases td <;> cases K <;> simp at hd
      simp only [RP] at r1 r2; subst r1; subst r2
      rcases v1 with ⟨h, _⟩ | ⟨_, h1⟩; · cases h
      rcases v2 with ⟨h, _⟩ | ⟨_, h2⟩; · cases h
      simp at h1 h2; subst h1; subst h2
      exact ⟨_, run_equalIn_string w (d + m) t _ _ hu, by rw [beq_iff_eq]; exact toList_inj⟩
    | array n e =>
      cases td <;> cases K <;> simp at hd
      rename_i n' e' n'' Ke
      obtain ⟨⟨⟨rfl, rfl⟩, rfl⟩, hd⟩ := hd
      obtain ⟨j, hj, hjK⟩ : ∃ j, E.ty.lookup e = some j ∧ j.K = Ke := by
        cases h : E.ty.lookup e with
        | none => rw [h] at hd; simp at hd
        | some j => rw [h] at hd; simp at hd; exact ⟨j, rfl, hd.1⟩
      subst hjK
      obtain ⟨hl1, css1, rfl, q1⟩ := r1
      obtain ⟨hl2, css2, rfl, q2⟩ := r2
      have h1 := v1.elim (·.2) fun h => absurd h.1 (by simp [Kind.isAgg])
      have h2 := v2.elim (·.2) fun h => absurd h.1 (by simp [Kind.isAgg])
      subst h1; subst h2
      obtain ⟨inf, _, hinf, _⟩ := T.info hj
      obtain ⟨r, hr, hiff⟩ := eqItems_sound T hj q1 q2 (fun x y a b w ha hb => equalIn_sound m e j hj hk d x y a b w ha hb) w (List.range n) (fun i hi => by simp at hi; exact ⟨by rw [hl1]; exact hi, by rw [hl2]; exact hi⟩)
      refine ⟨r, by rw [show d + (m + 1) = (d + m) + 1 from rfl, run_equalIn_array w (d + m) _ _ hu hinf]; exact hr, hiff.trans ⟨fun h => ?_, fun h => by subst h; intro i _; rfl⟩⟩
      apply List.ext_getElem?
      intro i
      by_cases hi : i < n
      · exact h i (by simpa using hi)
      · rw [List.getElem?_eq_none (by rw [hl1]; omega), List.getElem?_eq_none (by rw [hl2]; omega)]
    | struct fs =>
      simp only [Bool.and_eq_true, Bool.not_eq_true'] at hk
      cases td with
      | struct ts =>
        have hd : fieldsB E.ty fs.toList ts K 0 = true := hd
        have hag : K.isAgg = true := by
          cases hf : fs.toList <;> cases ts <;> cases K <;> simp [hf, fieldsB] at hd <;> rfl
        have h1 := v1.elim (·.2) fun h => absurd h.1 (by rw [hag]; simp)
        have h2 := v2.elim (·.2) fun h => absurd h.1 (by rw [hag]; simp)
        subst h1; subst h2
        have hfs : P.fieldsOf t = fs := by simp [Program.fieldsOf, hu]
        obtain ⟨r, hr, hiff⟩ := eqFields_sound T (d := d + m) (cs1 := c1) (cs2 := c2) (Q := fun t => P.keyTypeAt m t = true) (fun t i hi hk' x y a b w ha hb => equalIn_sound m t i hi hk' d x y a b w ha hb) w fs.toList ts K 0 x y hd (fun f hf => by
          have := Array.all_eq_true_iff_forall_mem.1 hk.1.1 f (Array.mem_toList_iff.1 hf)
          simp only [Bool.and_eq_true, bne_iff_ne, ne_eq] at this
          exact ⟨this.1, this.2⟩) (by simpa using r1) (by simpa using r2)
        exact ⟨r, by rw [show d + (m + 1) = (d + m) + 1 from rfl, run_equalIn_struct w (d + m) t _ _ (by rw [hfs]; exact hu) hk.2, hfs]; exact hr, hiff⟩
      | prim => cases K <;> simp at hd
      | slice _ => cases K <;> simp at hd
      | array _ _ => cases K <;> simp at hd
      | map _ _ => cases K <;> simp at hd
      | ptr _ => cases K <;> simp at hd
      | other => cases K <;> simp at hd
    | _ => simp at hk

end
end Go.Ev
