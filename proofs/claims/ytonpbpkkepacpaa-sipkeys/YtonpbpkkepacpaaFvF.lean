/-
  THE EVALUATOR's OPERATIONS ARE THE MODEL's: types; operations on numbers, texts and slots.
-/
import Derived.Test.YtonpbpkkepacpaaFvE
set_option linter.all false
namespace Go.Ev

/-- Are these the cells of a kind's zero value? -/
def zeroB : Kind → List Value → Bool
  | .int k, [.int k' n] => decide (k' = k) && decide (n = 0)
  | .bool, [.bool b] => !b
  | .str, [.string s] => s.size == 0
  | .opq, [v] => v.oneCell'
  | .unit, [] => true
  | .pair a b, cs => zeroB a (cs.take a.size) && zeroB b (cs.drop a.size)
  | .arr n e, cs => decide (cs.length = n * e.size) && (List.range n).all fun i => zeroB e (cut cs (i * e.size) e.size)
  | .sl _, [.slice none 0 0] => true
  | _, _ => false

def fieldsB (tys : List (TypeId × TI)) : List Field → List TypeId → Kind → Nat → Bool
  | [], [], .unit, _ => true
  | f :: fs, t :: ts, .pair a b, off => f.type == t && f.offset == off && decide (0 < a.size) && (match tys.lookup t with | some j => decide (j.K = a) | none => false) && fieldsB tys fs ts b (off + a.size)
  | _, _, _, _ => false

/-- Does the table's row say what the program's table says of the type? -/
def tyB (P : Program) (tys : List (TypeId × TI)) (q : TypeId × TI) : Bool :=
  match P.info? q.1, P.underlying q.1 with
  | some i, some d =>
    decide (i.size = q.2.K.size) && decide (i.bytes = q.2.bytes) &&
    (match i.zero with | some (.agg cs) => q.2.K.isAgg && zeroB q.2.K cs.toList | some z => !q.2.K.isAgg && z.oneCell' && zeroB q.2.K [z] | none => false) &&
    (match d, q.2.d, q.2.K with
      | .int k, .prim, .int k' => decide (k = k')
      | .bool, .prim, .bool => true
      | .string, .prim, .str => true
      | .slice e, .slice e', .sl Ke => decide (e = e') && (match tys.lookup e with | some j => decide (j.K = Ke) && decide (0 < Ke.size) && decide (0 < j.bytes) | none => false)
      | .array n e, .array n' e', .arr n'' Ke => decide (n = n') && decide (n = n'') && decide (e = e') && (match tys.lookup e with | some j => decide (j.K = Ke) && decide (0 < Ke.size) | none => false)
      | .struct fs, .struct ts, K => fieldsB tys fs.toList ts K 0
      | .map k v, .map k' v', .opq => decide (k = k') && decide (v = v')
      | .pointer e, .ptr e', .opq => decide (e = e')
      | _, _, _ => false) &&
    (!q.2.cmp || (P.keyTypeAt 100 q.1 && !(P.eqGuardType P.depth q.1)))
  | _, _ => false

variable {A : Type}

def TyOK (P : Program) (E : Env A) : Prop := ∀ t i, E.ty.lookup t = some i → tyB P E.ty (t, i) = true

theorem ti_sound {out : A} {E : Env A} {t : TypeId} {k : TI → Option A} (h : E.ti t k = some out) : ∃ i, E.ty.lookup t = some i ∧ k i = some out := by
  unfold Env.ti at h
  split at h
  · rename_i i hi; exact ⟨i, hi, h⟩
  · cases h

section
variable {P : Program} {E : Env A} (T : TyOK P E)
include T

theorem TyOK.info {t : TypeId} {i : TI} (h : E.ty.lookup t = some i) : ∃ inf d, P.info? t = some inf ∧ P.underlying t = some d ∧ inf.size = i.K.size ∧ inf.bytes = i.bytes := by
  have := T t i h
  unfold tyB at this
  split at this
  · rename_i inf d h1 h2
    simp only [Bool.and_eq_true, decide_eq_true_eq] at this
    exact ⟨inf, d, h1, h2, this.1.1.1.1, this.1.1.1.2⟩
  · cases this

theorem TyOK.size {t : TypeId} {i : TI} (h : E.ty.lookup t = some i) : (P.info? t).map (·.size) = some i.K.size := by
  obtain ⟨inf, d, h1, _, h2, _⟩ := T.info h
  simp [h1, h2]

theorem TyOK.cellsOf {t : TypeId} {i : TI} (h : E.ty.lookup t = some i) : P.cellsOf t = i.K.size := by
  obtain ⟨inf, d, h1, _, h2, _⟩ := T.info h
  simp [Program.cellsOf, h1, h2]

theorem TyOK.runSize {t : TypeId} {i : TI} (h : E.ty.lookup t = some i) (w : World) : (sizeOf t).run P w = .ok i.K.size w := by
  obtain ⟨inf, d, h1, _, h2, _⟩ := T.info h
  rw [run_sizeOf w h1, T.cellsOf h]

theorem TyOK.desc {t : TypeId} {i : TI} (h : E.ty.lookup t = some i) : ∃ d, P.underlying t = some d ∧
    (match d, i.d, i.K with
      | .int k, .prim, .int k' => decide (k = k')
      | .bool, .prim, .bool => true
      | .string, .prim, .str => true
      | .slice e, .slice e', .sl Ke => decide (e = e') && (match E.ty.lookup e with | some j => decide (j.K = Ke) && decide (0 < Ke.size) && decide (0 < j.bytes) | none => false)
      | .array n e, .array n' e', .arr n'' Ke => decide (n = n') && decide (n = n'') && decide (e = e') && (match E.ty.lookup e with | some j => decide (j.K = Ke) && decide (0 < Ke.size) | none => false)
      | .struct fs, .struct ts, K => fieldsB E.ty fs.toList ts K 0
      | .map k v, .map k' v', .opq => decide (k = k') && decide (v = v')
      | .pointer e, .ptr e', .opq => decide (e = e')
      | _, _, _ => false) = true := by
  have := T t i h
  unfold tyB at this
  split at this
  · rename_i inf d h1 h2
    simp only [Bool.and_eq_true] at this
    exact ⟨d, h2, this.1.2⟩
  · cases this

theorem TyOK.agg {t : TypeId} {i : TI} (h : E.ty.lookup t = some i) (w : World) : (isAgg t).run P w = .ok i.K.isAgg w := by
  obtain ⟨d, h1, h2⟩ := T.desc h
  unfold isAgg
  rw [Sem.run_bind, run_underlying h1 w]
  obtain ⟨K, td, by', cm⟩ := i
  simp only at h2 ⊢
  cases d <;> cases td <;> cases K <;> simp [Kind.isAgg] at h2 ⊢
  all_goals (simp [fieldsB] at h2)
  all_goals (rename_i fs ts; cases hf : fs.toList <;> cases ts <;> simp [hf, fieldsB] at h2)

theorem TyOK.cmp {t : TypeId} {i : TI} (h : E.ty.lookup t = some i) (hc : i.cmp = true) : P.keyTypeAt 100 t = true ∧ P.eqGuardType P.depth t = false := by
  have := T t i h
  unfold tyB at this
  split at this
  · simp [hc] at this; exact this.2
  · cases this

theorem TyOK.slice {t e : TypeId} {i : TI} (h : E.ty.lookup t = some i) (hd : i.d = .slice e) :
    P.underlying t = some (.slice e) ∧ ∃ j, E.ty.lookup e = some j ∧ i.K = .sl j.K ∧ 0 < j.K.size ∧ 0 < j.bytes := by
  obtain ⟨d, h1, h2⟩ := T.desc h
  obtain ⟨K, td, by', cm⟩ := i
  simp only at hd; subst hd
  cases d <;> cases K <;> simp at h2
  obtain ⟨rfl, h2⟩ := h2
  refine ⟨h1, ?_⟩
  split at h2
  · rename_i j hj; simp at h2; exact ⟨j, hj, by simp [h2.1.1], by rw [h2.1.1]; exact h2.1.2, h2.2⟩
  · cases h2

theorem TyOK.array {t e : TypeId} {n : Nat} {i : TI} (h : E.ty.lookup t = some i) (hd : i.d = .array n e) :
    P.underlying t = some (.array n e) ∧ ∃ j, E.ty.lookup e = some j ∧ i.K = .arr n j.K ∧ 0 < j.K.size := by
  obtain ⟨d, h1, h2⟩ := T.desc h
  obtain ⟨K, td, by', cm⟩ := i
  simp only at hd; subst hd
  cases d <;> cases K <;> simp at h2
  obtain ⟨⟨⟨rfl, rfl⟩, rfl⟩, h2⟩ := h2
  refine ⟨h1, ?_⟩
  split at h2
  · rename_i j hj; simp at h2; exact ⟨j, hj, by simp [h2.1], by rw [h2.1]; exact h2.2⟩
  · cases h2

theorem TyOK.map {t k v : TypeId} {i : TI} (h : E.ty.lookup t = some i) (hd : i.d = .map k v) : P.underlying t = some (.map k v) := by
  obtain ⟨d, h1, h2⟩ := T.desc h
  obtain ⟨K, td, by', cm⟩ := i
  simp only at hd; subst hd
  cases d <;> cases K <;> simp at h2
  obtain ⟨rfl, rfl⟩ := h2
  exact h1
end

theorem flatten_replicate_length {α : Type} (l : List (List α)) (m : Nat) (h : ∀ c ∈ l, c.length = m) : l.flatten.length = l.length * m := by
  induction l with
  | nil => simp
  | cons c r ih =>
    have h1 := h c (by simp); have h2 := ih fun c hc => h c (by simp [hc])
    simp [h1, h2, Nat.add_mul, Nat.add_comm]

/-- A list cut into equal parts. -/
theorem chunks {α : Type} : ∀ (n m : Nat) (cs : List α), cs.length = n * m → cs = ((List.range n).map fun i => cut cs (i * m) m).flatten
  | 0, m, cs, h => by simp at h; simp [h]
  | n + 1, m, cs, h => by
    have h1 : (cs.drop m).length = n * m := by simp [h, Nat.add_mul]
    have ih := chunks n m (cs.drop m) h1
    rw [List.range_succ_eq_map, List.map_cons, List.flatten_cons, List.map_map]
    have e1 : cut cs (0 * m) m = cs.take m := by simp [cut]
    have e2 : ((fun i => cut cs (i * m) m) ∘ Nat.succ) = fun i => cut (cs.drop m) (i * m) m := by
      funext i; simp [cut, Nat.succ_mul, Nat.add_comm]
    rw [e1, e2, ← ih, List.take_append_drop]

theorem zeroB_RP {F : Nat → Prop} {w : World} : ∀ {K : Kind} {cs : List Value}, zeroB K cs = true → RP F w K K.zero cs
  | .int k, cs, h => by
    match cs with
    | [.int k' n] => simp [zeroB] at h; obtain ⟨rfl, rfl⟩ := h; rfl
    | [] => simp [zeroB] at h
    | v :: _ :: _ => simp [zeroB] at h
    | [.bool _] | [.float _ _] | [.complex _ _ _] | [.string _] | [.pointer _] | [.slice _ _ _] | [.map _] | [.chan _] | [.func _ _ _] | [.nilFunc] | [.iface _ _] | [.nilIface] | [.agg _] | [.tuple _] => simp [zeroB] at h
  | .bool, cs, h => by
    match cs with
    | [.bool b] => simp [zeroB] at h; subst h; rfl
    | [] => simp [zeroB] at h
    | v :: _ :: _ => simp [zeroB] at h
    | [.int _ _] | [.float _ _] | [.complex _ _ _] | [.string _] | [.pointer _] | [.slice _ _ _] | [.map _] | [.chan _] | [.func _ _ _] | [.nilFunc] | [.iface _ _] | [.nilIface] | [.agg _] | [.tuple _] => simp [zeroB] at h
  | .str, cs, h => by
    match cs with
    | [.string s] =>
      simp [zeroB] at h
      subst h; rfl
    | [] => simp [zeroB] at h
    | v :: _ :: _ => simp [zeroB] at h
    | [.int _ _] | [.float _ _] | [.complex _ _ _] | [.bool _] | [.pointer _] | [.slice _ _ _] | [.map _] | [.chan _] | [.func _ _ _] | [.nilFunc] | [.iface _ _] | [.nilIface] | [.agg _] | [.tuple _] => simp [zeroB] at h
  | .opq, cs, h => by
    match cs with
    | [v] => exact ⟨v, rfl, by simpa [zeroB] using h⟩
    | [] => simp [zeroB] at h
    | v :: _ :: _ => simp [zeroB] at h
  | .unit, cs, h => by
    match cs with
    | [] => rfl
    | v :: _ => simp [zeroB] at h
  | .pair a b, cs, h => by
    simp only [zeroB, Bool.and_eq_true] at h
    exact ⟨cs.take a.size, cs.drop a.size, by simp, zeroB_RP h.1, zeroB_RP h.2⟩
  | .arr n e, cs, h => by
    simp only [zeroB, Bool.and_eq_true, decide_eq_true_eq, List.all_eq_true, List.mem_range] at h
    obtain ⟨hl, h⟩ := h
    refine ⟨by simp [Kind.zero], (List.range n).map fun i => cut cs (i * e.size) e.size, chunks n e.size cs hl, ?_⟩
    refine All2.of_get (by simp [Kind.zero]) fun i a b ha hb => ?_
    have hi : i < n := by have := (List.getElem?_eq_some_iff.1 ha).1; simpa [Kind.zero] using this
    have ha' : a = e.zero := by
      have : (List.replicate n e.zero)[i]? = some e.zero := by simp [hi]
      have h2 : (List.replicate n e.zero)[i]? = some a := ha
      rw [this] at h2; exact (Option.some.inj h2).symm
    have hb' : b = cut cs (i * e.size) e.size := by simp [hi] at hb; exact hb.symm
    rw [ha', hb']
    exact zeroB_RP (h i hi)
  | .sl e, cs, h => by
    match cs with
    | [.slice none 0 0] => exact ⟨none, 0, rfl, Nat.le_refl _, fun h => absurd h (Nat.lt_irrefl _)⟩
    | [] => simp [zeroB] at h
    | v :: _ :: _ => simp [zeroB] at h
    | [.slice (some _) _ _] | [.slice none (_ + 1) _] | [.slice none 0 (_ + 1)] | [.bool _] | [.int _ _] | [.float _ _] | [.complex _ _ _] | [.string _] | [.pointer _] | [.map _] | [.chan _] | [.func _ _ _] | [.nilFunc] | [.iface _ _] | [.nilIface] | [.agg _] | [.tuple _] => simp [zeroB] at h

theorem TyOK.zero {P : Program} {E : Env A} (T : TyOK P E) {t : TypeId} {i : TI} (h : E.ty.lookup t = some i) (w : World) (X : Cx) :
    ∃ z, (zeroValue t).run P w = .ok z w ∧ RS0 X (.p i.K i.K.zero) z ∧ RP X.F X.w i.K i.K.zero z.cells.toList := by
  obtain ⟨inf, d, h1, _⟩ := T.info h
  have := T t i h
  unfold tyB at this
  rw [h1] at this
  split at this
  · rename_i inf' d' h3 h4
    cases h3
    simp only [Bool.and_eq_true] at this
    have hz := this.1.1.2
    split at hz
    · rename_i cs hcs
      simp only [Bool.and_eq_true] at hz
      have hr := zeroB_RP (F := X.F) (w := X.w) hz.2
      exact ⟨.agg cs, by simp [zeroValue, typeInfo, h1, hcs], .inr ⟨cs.toList, hr, .inl ⟨hz.1, by simp⟩⟩, hr⟩
    · rename_i z hz1 hz2
      simp only [Bool.and_eq_true, Bool.not_eq_true'] at hz
      have hr := zeroB_RP (F := X.F) (w := X.w) hz.2
      refine ⟨z, by simp [zeroValue, typeInfo, h1, hz2], .inr ⟨[z], hr, .inr ⟨hz.1.1, rfl⟩⟩, ?_⟩
      have e : z.cells.toList = [z] := by
        have := hz.1.2
        cases z <;> first | rfl | (simp [Value.oneCell'] at this)
      rw [e]; exact hr
    · cases hz
  · cases this

end Go.Ev
