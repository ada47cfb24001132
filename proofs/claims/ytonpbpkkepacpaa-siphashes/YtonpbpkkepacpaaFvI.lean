/-
  THE EVALUATOR's OPERATIONS ARE THE MODEL's, MORE: '==', numbers, addresses, loads, lengths.
-/
import Derived.Test.YtonpbpkkepacpaaFvH
set_option linter.all false
namespace Go.Ev
variable {A : Type}

theorem RS.of0 {X : Cx} {av : AV} {v : Value} (h : RS0 X av v) (ht : ∀ vs, av ≠ .tup vs) : RS X av v := by
  cases av <;> first | exact h | exact absurd rfl (ht _)

theorem RS.to0 {X : Cx} {av : AV} {v : Value} (h : RS X av v) (ht : ∀ vs, av ≠ .tup vs) : RS0 X av v := by
  cases av <;> first | exact h | exact absurd rfl (ht _)

theorem fits_noTup {av : AV} {K : Kind} (h : av.fits K = true) : ∀ vs, av ≠ .tup vs := fun vs e => by
  subst e; cases K <;> simp [AV.fits] at h

section
variable {P : Program} {E : Env A} (T : TyOK P E) {o : Oper} {ev : Operand → AV} {sub : List (Nat × Blk)} {fresh : Nat} {k : Cont A} {out : A}

theorem shift_run {q : IntKind} {a b : Int} {yk : IntKind} {t : TypeId} (hb : ¬ b < 0) (w : World) :
    (binOp .shl t (.int q a) (.int yk b)).run P w = .ok (.int q (shl q a b)) w ∧ (binOp .shr t (.int q a) (.int yk b)).run P w = .ok (.int q (shr q a b)) w := by
  constructor <;> simp [binOp, Op.shift, hb, shl, shr]

include T in
theorem TyOK.cmpKind {t : TypeId} {i : TI} (hi : E.ty.lookup t = some i) (hc : i.cmp = true) (ha : i.K.isAgg = false) : (∃ q, i.K = .int q) ∨ i.K = .bool ∨ i.K = .str := by
  obtain ⟨ds, hu, hd⟩ := T.desc hi
  have hk := (T.cmp hi hc).1
  rw [show (100 : Nat) = 99 + 1 from rfl] at hk
  unfold Program.keyTypeAt at hk
  rw [hu] at hk
  obtain ⟨K, td, by', cm⟩ := i
  simp only at hd ha ⊢
  cases K with
  | int q => exact .inl ⟨q, rfl⟩
  | bool => exact .inr (.inl rfl)
  | str => exact .inr (.inr rfl)
  | opq =>
    exfalso
    cases ds <;> cases td <;> first
      | (simp at hd; done)
      | (simp at hk; done)
      | (rename_i fs ts; cases hf : fs.toList <;> cases ts <;> simp [hf, fieldsB] at hd)
  | sl e =>
    exfalso
    cases ds <;> cases td <;> first
      | (simp at hd; done)
      | (simp at hk; done)
      | (rename_i fs ts; cases hf : fs.toList <;> cases ts <;> simp [hf, fieldsB] at hd)
  | unit => simp [Kind.isAgg] at ha
  | pair a b => simp [Kind.isAgg] at ha
  | arr n e => simp [Kind.isAgg] at ha

theorem dec_eq {K : Kind} {x y : K.den} {r : Bool} (h : r = true ↔ x = y) : @decide (x = y) (K.dec x y) = r := by
  cases r
  · exact @decide_eq_false _ (K.dec x y) fun h' => by have := h.2 h'; cases this
  · exact @decide_eq_true _ (K.dec x y) (h.1 rfl)

include T in
theorem eq_data {t : TypeId} {i : TI} (hi : E.ty.lookup t = some i) (hc : i.cmp = true) {X : Cx} {x y : i.K.den} {a b : Value} (ha : RS0 X (.p i.K x) a) (hb : RS0 X (.p i.K y) b)
    {x' y' : Operand} (w : World) :
    (eqGuard .eql t x' y' a b).run P w = .ok () w ∧ (eqGuard .neq t x' y' a b).run P w = .ok () w ∧
    (binOp .eql t a b).run P w = .ok (.bool (@decide (x = y) (i.K.dec x y))) w ∧ (binOp .neq t a b).run P w = .ok (.bool (!@decide (x = y) (i.K.dec x y))) w := by
  obtain ⟨hk, hg⟩ := T.cmp hi hc
  obtain ⟨r, hr, hiff⟩ := equalIn_sound T 100 t i hi hk 9900 x y a b w ha hb
  have hr' : (Op.equalIn 10000 t a b).run P w = .ok r w := hr
  rw [dec_eq hiff]
  obtain ⟨c1, r1, v1⟩ := ha.data
  obtain ⟨c2, r2, v2⟩ := hb.data
  rcases v1 with ⟨g1, rfl⟩ | ⟨g1, h1⟩
  · rcases v2 with ⟨_, rfl⟩ | ⟨g2, _⟩
    · refine ⟨run_eqGuard_agg w .eql t x' y' _ _ hg, run_eqGuard_agg w .neq t x' y' _ _ hg, ?_, ?_⟩
      · rw [run_eql_struct, hr']; rfl
      · rw [run_neq_struct, hr']; rfl
    · rw [g1] at g2; cases g2
  · rcases v2 with ⟨g2, _⟩ | ⟨g2, h2⟩
    · rw [g1] at g2; cases g2
    · subst h1; subst h2
      have hkind := T.cmpKind hi hc g1
      obtain ⟨K, td, by', cm⟩ := i
      simp only at x y hkind r1 r2 hiff
      rcases hkind with ⟨q, rfl⟩ | rfl | rfl
      · simp only [RP] at r1 r2
        simp at r1 r2
        subst r1; subst r2
        have e : (x == y) = r := by rw [Bool.eq_iff_iff, hiff]; exact beq_iff_eq
        exact ⟨eqGuard_int w, eqGuard_int w, by simp [binOp, Op.intCmp, e], by simp [binOp, Op.intCmp, bne, e]⟩
      · simp only [RP] at r1 r2
        simp at r1 r2
        subst r1; subst r2
        exact ⟨eqGuard_bool w, eqGuard_bool w, by simp [binOp, Op.equal, Op.maxDepth, hr'], by simp [binOp, Op.equal, Op.maxDepth, hr']⟩
      · simp only [RP] at r1 r2
        simp at r1 r2
        subst r1; subst r2
        have e : (x.toList == y.toList) = r := by rw [Bool.eq_iff_iff, hiff, beq_iff_eq]; exact toList_inj
        exact ⟨eqGuard_str w, eqGuard_str w, by simp only [binOp, Op.stringOp, e]; rfl, by simp only [binOp, Op.stringOp, e]; rfl⟩

include T in
theorem bin_sound {op : BinOp} {t yt : TypeId} {x y : Operand} (ho : o.op = .binOp op t x y yt) (h : binK E op t (ev x) (ev y) (fun v => k v []) = some out) : ∃ v l, k v l = some out ∧ OpSem P o ev sub fresh v l := by
  have mx : x ∈ o.op.operands := by simp [Op.operands, ho]
  have my : y ∈ o.op.operands := by simp [Op.operands, ho]
  unfold binK at h
  split at h
  · rename_i K x0 K' y0 ex ey
    split at h
    · rename_i q a q' b
      have fin : ∀ v : AV, (∀ (a' b' : Value) (w : World) (X : Cx), a' = .int q a → b' = .int q' b → ∃ u, (binOp op t a' b').run P w = .ok u w ∧ RS X v u) → OpSem P o ev sub fresh v [] := fun v hv => opsem_value fun X ac at_ => by
        have h1 := at_.opr x mx; rw [ex, RS.int] at h1
        have h2 := at_.opr y my; rw [ey, RS.int] at h2
        obtain ⟨u, hu, hr⟩ := hv _ _ X.w X h1 h2
        exact ⟨u, by simp [execOp, ho, h1, h2, eqGuard_int]; rw [← h1, ← h2, hu]; rfl, hr⟩
      split at h
      · split at h
        · cases h
        · rename_i hb; exact ⟨_, _, h, fin _ fun a' b' w X ha hb' => ⟨_, by rw [ha, hb']; exact (shift_run hb w).1, RS.int.2 rfl⟩⟩
      · split at h
        · cases h
        · rename_i hb; exact ⟨_, _, h, fin _ fun a' b' w X ha hb' => ⟨_, by rw [ha, hb']; exact (shift_run hb w).2, RS.int.2 rfl⟩⟩
      · rename_i n1 n2
        split at h
        · rename_i hq; subst hq
          obtain ⟨v, hv, hs⟩ := intOp_sound (P := P) ⟨fun e => n1 e, fun e => n2 e⟩ h
          exact ⟨_, _, hv, fin _ fun a' b' w X ha hb' => by rw [ha, hb']; exact hs t w X⟩
        · cases h
    · rename_i a b
      obtain ⟨v, hv, hs⟩ := strOp_sound (P := P) h
      refine ⟨_, _, hv, opsem_value fun X ac at_ => ?_⟩
      have h1 := at_.opr x mx; rw [ex, RS.str] at h1
      have h2 := at_.opr y my; rw [ey, RS.str] at h2
      obtain ⟨u, hu, hr⟩ := hs t X.w X
      exact ⟨u, by simp [execOp, ho, h1, h2, eqGuard_str, hu], hr⟩
    · rename_i n1 n2
      split at h
      · rename_i hK; subst hK
        obtain ⟨i, hi, h⟩ := ti_sound h
        split at h
        · rename_i hc
          simp only [Bool.and_eq_true, decide_eq_true_eq] at hc
          obtain ⟨hc, rfl⟩ := hc
          have fin : ∀ (b : Bool → Bool) (op' : BinOp), op = op' → (op' = .eql ∧ b = id ∨ op' = .neq ∧ b = not) → OpSem P o ev sub fresh (.p .bool (b (@decide (x0 = y0) (i.K.dec x0 y0)))) [] := fun bf op' hop hcase => opsem_value fun X ac at_ => by
            have h1 := (at_.opr x mx); rw [ex] at h1
            have h2 := (at_.opr y my); rw [ey] at h2
            have g1 := h1.to0 (by simp)
            have g2 := h2.to0 (by simp)
            obtain ⟨q1, q2, q3, q4⟩ := eq_data T hi hc g1 g2 (x' := x) (y' := y) X.w
            refine ⟨_, ?_, RS.bool.2 rfl⟩
            rcases hcase with ⟨rfl, rfl⟩ | ⟨rfl, rfl⟩
            · subst hop; simp [execOp, ho, q1, q3]
            · subst hop; simp [execOp, ho, q2, q4]
          split at h
          · exact ⟨_, _, h, fin id .eql rfl (.inl ⟨rfl, rfl⟩)⟩
          · exact ⟨_, _, h, fin not .neq rfl (.inr ⟨rfl, rfl⟩)⟩
          · cases h
        · cases h
      · cases h
  · cases h

end
end Go.Ev
