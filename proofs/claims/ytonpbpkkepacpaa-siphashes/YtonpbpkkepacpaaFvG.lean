/-
  THE EVALUATOR's OPERATIONS ARE THE MODEL's, MORE: slots, new variables, numbers, addresses, loads.
-/
import Derived.Test.YtonpbpkkepacpaaFvF
set_option linter.all false
namespace Go.Ev

structure At (X : Cx) (a : Act) (o : Oper) (ev : Operand → AV) (sub : List (Nat × Blk)) : Prop where
  opr : ∀ x, x ∈ o.op.operands → RS X (ev x) (a.eval x)
  ok : Ok X
  glo : ∀ g, RS X (ev (.global g)) (.pointer (some ⟨g, 0, none⟩))
  sub : ∀ (id : Nat) (b : Blk), sub.lookup id = some b → X.hp[id]? = some b

/-- What an operation does, told of its operands and of the blocks that they lead to alone. -/
def OpSem (P : Program) (o : Oper) (ev : Operand → AV) (sub : List (Nat × Blk)) (fresh : Nat) (v : AV) (l : List (Nat × Blk)) : Prop :=
  (∀ q, q ∈ l → fresh ≤ q.1 ∨ ∃ c, sub.lookup q.1 = some c) ∧
  ∀ (X : Cx) (a : Act) (K : Act → World → Prop) (Q : Exit → Act → World → Prop), At X a o ev sub → (∀ q, q ∈ l → fresh ≤ q.1 → X.unused q.1) →
    (∀ (Y : Cx) (u : Value), Y.hp = asg X.hp l → RS Y v u → Ok Y → WEvo X Y → HEvo X Y → K (a.put o.dst u) Y.w) → o.wp P a X.w K Q

theorem opsem_value {P : Program} {o : Oper} {ev : Operand → AV} {sub : List (Nat × Blk)} {fresh : Nat} {v : AV}
    (h : ∀ (X : Cx) (a : Act), At X a o ev sub → ∃ u, (execOp a.eval o).run P X.w = .ok (.value u) X.w ∧ RS X v u) : OpSem P o ev sub fresh v [] :=
  ⟨by simp, fun X a K Q at_ _ hk => by
    obtain ⟨u, hr, hv⟩ := h X a at_
    unfold Oper.wp; rw [hr]
    exact hk X u rfl hv at_.ok (.refl X) (.refl X)⟩

/-- An operation that makes a block, or a nil row. -/
theorem opsem_new {P : Program} {o : Oper} {ev : Operand → AV} {sub : List (Nat × Blk)} {fresh : Nat} {v : AV} {B : Blk}
    (h : ∀ (X : Cx) (a : Act), At X a o ev sub → X.unused fresh → ∃ (u : Value) (q : Option Nat) (w' : World), (execOp a.eval o).run P X.w = .ok (.value u) w' ∧
      w'.os = X.w.os ∧ w'.tape = X.w.tape ∧ w'.output = X.w.output ∧ X.w.heap.size ≤ w'.heap.size ∧ (∀ k, k < X.w.heap.size → w'.heap[k]? = X.w.heap[k]?) ∧ (∀ n, q = some n → X.w.heap.size ≤ n) ∧
      ∀ Y : Cx, Y = ⟨upd X.ρ fresh q, hpSet X.hp fresh B, X.F, w'⟩ → WEvo X Y → HEvo X Y → RB Y fresh B ∧ RS Y v u) : OpSem P o ev sub fresh v [(fresh, B)] :=
  ⟨by simp, fun X a K Q at_ hu hk => by
    have hun := hu (fresh, B) (by simp) (Nat.le_refl _)
    obtain ⟨u, q, w', hr, h1, h2, h3, h4, h5, h6, h7⟩ := h X a at_ hun
    obtain ⟨o1, o2, o3⟩ := new_ok at_.ok hun (B := B) (q := q) (w' := w') (Y := ⟨upd X.ρ fresh q, hpSet X.hp fresh B, X.F, w'⟩) rfl h1 h2 h3 h4 h5 h6 fun W H => (h7 _ rfl W H).1
    unfold Oper.wp; rw [hr]
    exact hk ⟨upd X.ρ fresh q, hpSet X.hp fresh B, X.F, w'⟩ u rfl (h7 _ rfl o2 o3).2 o1 o2 o3⟩

variable {A : Type}

theorem R1_row {X : Cx} {id : Nat} {v : Value} {e : TypeId} {K : Kind} {xs : List K.den} (h : X.hp[id]? = some (.row e K xs)) : R1 X (.row id) v ↔ ((X.ρ id = none ∧ xs.length = 0 ∧ v = .slice none 0 0) ∨
    (∃ b cap cur, X.ρ id = some b ∧ v = .slice (some ⟨b, 0, none⟩) xs.length cap ∧ X.w.heap[b]? = some (.cells cur e (0, 0)) ∧ cur.size = cap * K.size ∧ xs.length ≤ cap)) := by
  simp only [R1]; rw [h]
theorem R1_sub {X : Cx} {id lo len : Nat} {v : Value} {e : TypeId} {K : Kind} {xs : List K.den} (h : X.hp[id]? = some (.row e K xs)) : R1 X (.sub id lo len) v ↔
    (lo + len ≤ xs.length ∧ ∃ ao c, v = .slice ao len c ∧ len ≤ c ∧ (0 < len → ∃ b, X.ρ id = some b ∧ ao = some ⟨b, lo * K.size, none⟩)) := by
  simp only [R1]; rw [h]
theorem R1_ptr {X : Cx} {id : Nat} {path : List Hop} {v : Value} {t : TypeId} {K : Kind} {av : AV} (h : X.hp[id]? = some (.var t K av)) : R1 X (.ptr id path) v ↔
    ∃ b off K', X.ρ id = some b ∧ koff K path = some (off, K') ∧ v = .pointer (some ⟨b, off, none⟩) := by
  simp only [R1]; rw [h]
theorem R1_ptrR {X : Cx} {id : Nat} {path : List Hop} {v : Value} {e : TypeId} {K : Kind} {xs : List K.den} (h : X.hp[id]? = some (.row e K xs)) : R1 X (.ptr id path) v ↔
    ∃ b i r off K', path = .idx i :: r ∧ i < xs.length ∧ X.ρ id = some b ∧ koff K r = some (off, K') ∧ v = .pointer (some ⟨b, i * K.size + off, none⟩) := by
  simp only [R1]; rw [h]
theorem R1_slc {X : Cx} {id lo len : Nat} {path : List Hop} {v : Value} {t : TypeId} {K : Kind} {av : AV} (h : X.hp[id]? = some (.var t K av)) : R1 X (.slc id path lo len) v ↔
    ∃ b off n e, X.ρ id = some b ∧ koff K path = some (off, .arr n e) ∧ lo + len ≤ n ∧ ∃ ao c, v = .slice ao len c ∧ len ≤ c ∧ (0 < len → ao = some ⟨b, off + lo * e.size, none⟩) := by
  simp only [R1]; rw [h]
theorem R1_mp {X : Cx} {id : Nat} {v : Value} {KK KV : Kind} {es : List (KK.den × KV.den)} (h : X.hp[id]? = some (.map KK KV es)) : R1 X (.mp id) v ↔ ∃ b, X.ρ id = some b ∧ v = .map (some b) := by
  simp only [R1]; rw [h]

theorem RS.row_new {Y : Cx} {id b cap : Nat} {e : TypeId} {K : Kind} {xs : List K.den} {cur : Array Value} (h1 : Y.hp[id]? = some (.row e K xs)) (h2 : Y.ρ id = some b)
    (h3 : Y.w.heap[b]? = some (.cells cur e (0, 0))) (h4 : cur.size = cap * K.size) (h5 : xs.length ≤ cap) : RS Y (.row id) (.slice (some ⟨b, 0, none⟩) xs.length cap) :=
  (RS.one (by simp) (by simp) (by simp) (by simp)).2 ((R1_row h1).2 (.inr ⟨b, cap, cur, h2, rfl, h3, h4, h5⟩))

theorem RS.row_nil {Y : Cx} {id : Nat} {e : TypeId} {K : Kind} {xs : List K.den} (h1 : Y.hp[id]? = some (.row e K xs)) (h2 : Y.ρ id = none) (h3 : xs.length = 0) : RS Y (.row id) (.slice none 0 0) :=
  (RS.one (by simp) (by simp) (by simp) (by simp)).2 ((R1_row h1).2 (.inl ⟨h2, h3, rfl⟩))

theorem RS.ptr_new {Y : Cx} {id b : Nat} {t : TypeId} {K : Kind} {v : AV} (h1 : Y.hp[id]? = some (.var t K v)) (h2 : Y.ρ id = some b) : RS Y (.ptr id []) (.pointer (some ⟨b, 0, none⟩)) :=
  (RS.one (by simp) (by simp) (by simp) (by simp)).2 ((R1_ptr h1).2 ⟨b, 0, K, h2, koff_nil K, rfl⟩)

section
variable {P : Program} {E : Env A} (T : TyOK P E) {o : Oper} {ev : Operand → AV} {sub : List (Nat × Blk)} {fresh : Nat} {k : Cont A} {out : A}
include T

theorem move_sound {x : Operand} (ho : o.op = .move x ∨ o.op = .assign x) (h : moveK E o.type ev x fresh k = some out) : ∃ v l, k v l = some out ∧ OpSem P o ev sub fresh v l := by
  have hx : ∀ a : Act, ∀ w, (execOp a.eval o).run P w = .ok (.value (a.eval x)) w := by
    intro a w; rcases ho with ho | ho <;> simp [execOp, ho]
  have hm : x ∈ o.op.operands := by rcases ho with ho | ho <;> simp [Op.operands, ho]
  unfold moveK at h
  split at h
  · obtain ⟨i, hi, h⟩ := ti_sound h
    split at h
    · rename_i e he
      obtain ⟨j, hj, h⟩ := ti_sound h
      refine ⟨_, _, h, opsem_new fun X a at_ _ => ⟨_, none, X.w, hx a X.w, rfl, rfl, rfl, Nat.le_refl _, fun _ _ => rfl, (fun _ h => nomatch h), fun Y hY W H => ?_⟩⟩
      subst hY
      exact ⟨.inl ⟨upd_same .., rfl⟩, RS.row_nil (hpSet_same ..) (upd_same ..) rfl⟩
    · cases h
  · exact ⟨_, _, h, opsem_value fun X a at_ => ⟨_, hx a X.w, at_.opr _ hm⟩⟩

omit T in
theorem pick_sound {c x y : Operand} (ho : o.op = .pick c x y) (h : (match ev c with | .p .bool t => (bif t then k (ev x) [] else k (ev y) []) | _ => none) = some out) :
    ∃ v l, k v l = some out ∧ OpSem P o ev sub fresh v l := by
  split at h
  · rename_i t hc
    have key : ∀ z, (z = if t then x else y) → OpSem P o ev sub fresh (ev z) [] := fun z hz => opsem_value fun X a at_ => by
      have h1 := at_.opr c (by simp [Op.operands, ho])
      rw [hc, RS.bool] at h1
      refine ⟨a.eval z, ?_, at_.opr z (by subst hz; cases t <;> simp [Op.operands, ho])⟩
      subst hz
      cases t <;> simp [execOp, ho, h1, asBool]
    cases t
    · exact ⟨_, _, by simpa using h, key y (by simp)⟩
    · exact ⟨_, _, by simpa using h, key x (by simp)⟩
  · cases h

theorem alloc_sound {t : TypeId} (ho : o.op = .alloc t) (h : (E.ti t fun i => k (.ptr fresh []) [(fresh, .var t i.K (.p i.K i.K.zero))]) = some out) : ∃ v l, k v l = some out ∧ OpSem P o ev sub fresh v l := by
  obtain ⟨i, hi, h⟩ := ti_sound h
  refine ⟨_, _, h, opsem_new fun X a at_ _ => ?_⟩
  obtain ⟨z, hz, hr, hp⟩ := T.zero hi X.w X
  refine ⟨.pointer (some ⟨X.w.heap.size, 0, none⟩), some X.w.heap.size, X.w.alloc (.cells z.cells t), ?_, rfl, rfl, rfl, by simp, fun n hn => heap_alloc_old X.w _ hn, fun n hn => (Option.some.inj hn) ▸ Nat.le_refl _, fun Y hY W H => ?_⟩
  · simp [execOp, ho, Instr.alloc, hz, newVar, newRow]
  · subst hY
    refine ⟨⟨by simp [AV.fits], X.w.heap.size, z.cells.toList, upd_same .., by simpa using heap_alloc_new X.w (.cells z.cells t), hp.evo W at_.ok.fo⟩, RS.ptr_new (hpSet_same ..) (upd_same ..)⟩

omit T in
theorem box_sound {t : TypeId} {x : Operand} (ho : o.op = .box t x) (h : (E.ti t fun i => if (ev x).isAny then none else if (ev x).fits i.K then k (.ptr fresh []) [(fresh, .var t i.K (ev x))] else none) = some out) :
    ∃ v l, k v l = some out ∧ OpSem P o ev sub fresh v l := by
  obtain ⟨i, hi, h⟩ := ti_sound h
  split at h
  · cases h
  · rename_i hna
    split at h
    · rename_i hf
      have hna' : (ev x).isAny = false := by simpa using hna
      have htup : ∀ vs, ev x ≠ .tup vs := fun vs e => by rw [e] at hf; cases hK : i.K <;> simp [AV.fits] at hf
      refine ⟨_, _, h, opsem_new fun X a at_ _ => ?_⟩
      have h1 := at_.opr x (by simp [Op.operands, ho])
      have h1 : RS0 X (ev x) (a.eval x) := by revert h1 htup; cases ev x <;> intro htup h1 <;> first | exact h1 | exact absurd rfl (htup _)
      obtain ⟨cs, hcs, hcells⟩ := h1.cells hna'
      refine ⟨.pointer (some ⟨X.w.heap.size, 0, none⟩), some X.w.heap.size, X.w.alloc (.cells cs.toArray t), ?_, rfl, rfl, rfl, by simp, fun n hn => heap_alloc_old X.w _ hn, fun n hn => (Option.some.inj hn) ▸ Nat.le_refl _, fun Y hY W H => ?_⟩
      · simp [execOp, ho, Instr.box, newVar, newRow, hcells]
      · subst hY
        exact ⟨⟨hf, X.w.heap.size, cs, upd_same .., heap_alloc_new X.w _, hcs.evo W H at_.ok.fo⟩, RS.ptr_new (hpSet_same ..) (upd_same ..)⟩
    · cases h
end

-- ------------------------------------------------------------ numbers

section
variable {P : Program} {E : Env A} {o : Oper} {ev : Operand → AV} {sub : List (Nat × Blk)} {fresh : Nat} {k : Cont A} {out : A}

theorem eqGuard_int {op : BinOp} {t : TypeId} {x y : Operand} {q q' : IntKind} {a b : Int} (w : World) : (eqGuard op t x y (.int q a) (.int q' b)).run P w = .ok () w := by
  cases op <;> simp [eqGuard]
theorem eqGuard_str {op : BinOp} {t : TypeId} {x y : Operand} {a b : ByteArray} (w : World) : (eqGuard op t x y (.string a) (.string b)).run P w = .ok () w := by
  cases op <;> simp [eqGuard]
theorem eqGuard_bool {op : BinOp} {t : TypeId} {x y : Operand} {a b : Bool} (w : World) : (eqGuard op t x y (.bool a) (.bool b)).run P w = .ok () w := by
  cases op <;> simp [eqGuard]

theorem intOp_sound {op : BinOp} {q : IntKind} {a b : Int} {c : AV → Option A} (hs : op ≠ .shl ∧ op ≠ .shr) (h : intOp op q a b c = some out) :
    ∃ v, c v = some out ∧ ∀ (t : TypeId) (w : World) (X : Cx), ∃ u, (binOp op t (.int q a) (.int q b)).run P w = .ok u w ∧ RS X v u := by
  cases op <;> simp only [intOp] at h <;> first
    | exact absurd rfl hs.1
    | exact absurd rfl hs.2
    | (cases h; done)
    | (split at h
       · cases h
       · rename_i hb
         refine ⟨_, h, fun t w X => ⟨_, ?_, RS.int.2 rfl⟩⟩
         simp [binOp, Op.intDiv, hb])
    | exact ⟨_, h, fun t w X => ⟨_, by simp [binOp, Op.intArith] <;> rfl, RS.int.2 rfl⟩⟩
    | exact ⟨_, h, fun t w X => ⟨_, by simp [binOp, Op.intBits] <;> rfl, RS.int.2 rfl⟩⟩
    | exact ⟨_, h, fun t w X => ⟨_, by simp [binOp, Op.intCmp] <;> rfl, RS.bool.2 rfl⟩⟩

theorem strOp_sound {op : BinOp} {a b : ByteArray} {c : AV → Option A} (h : strOp op a b c = some out) :
    ∃ v, c v = some out ∧ ∀ (t : TypeId) (w : World) (X : Cx), ∃ u, (binOp op t (.string a) (.string b)).run P w = .ok u w ∧ RS X v u := by
  cases op <;> simp only [strOp] at h <;> first
    | (cases h; done)
    | (split at h
       · rename_i hb
         refine ⟨_, h, fun t w X => ⟨_, ?_, RS.str.2 rfl⟩⟩
         have : ¬ ((a.size + b.size : Nat) : Int) > IntKind.i64.max := by
           have e : IntKind.i64.max = 9223372036854775807 := by decide
           rw [e]; omega
         simp only [binOp, Op.stringOp]
         rw [if_neg this]; rfl
       · cases h)
    | exact ⟨_, h, fun t w X => ⟨_, by simp [binOp, Op.stringOp] <;> rfl, RS.bool.2 rfl⟩⟩
end

end Go.Ev
