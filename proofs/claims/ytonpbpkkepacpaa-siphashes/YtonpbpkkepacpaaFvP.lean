/-
  THE EVALUATOR's OPERATIONS ARE THE MODEL's, MORE: maps whose keys are structs and arrays of plain data.
-/
import Derived.Test.YtonpbpkkepacpaaFvO
import Derived.WideKeyRuns
import Derived.MapKept
import Derived.ChangeMaps4
set_option linter.all false
namespace Go.Ev
open Go.ChangeMaps (setBlock)
variable {A : Type}

theorem RP.flat {F F' : Nat → Prop} {w w' : World} : ∀ {K : Kind} {x : K.den} {cs cs' : List Value}, K.flat = true → RP F w K x cs → RP F' w' K x cs' → cs = cs' ∧ ∀ u ∈ cs, ∀ m, Instr.sameBits m u u = true
  | .int _, _, _, _, _, h, h' => by simp [RP] at h h'; subst h; subst h'; exact ⟨rfl, fun u hu m => by simp at hu; subst hu; cases m <;> simp [Instr.sameBits]⟩
  | .bool, _, _, _, _, h, h' => by simp [RP] at h h'; subst h; subst h'; exact ⟨rfl, fun u hu m => by simp at hu; subst hu; cases m <;> simp [Instr.sameBits]⟩
  | .str, x, _, _, _, h, h' => by
    simp [RP] at h h'; subst h; subst h'
    have e : ((x : ByteArray) == x) = true := by obtain ⟨d⟩ := (x : ByteArray); exact beq_self_eq_true d
    exact ⟨rfl, fun u hu m => by simp at hu; subst hu; cases m <;> simp only [Instr.sameBits] <;> exact e⟩
  | .unit, _, _, _, _, h, h' => by simp [RP] at h h'; subst h; subst h'; exact ⟨rfl, fun u hu m => by simp at hu⟩
  | .opq, _, _, _, hf, _, _ => by simp [Kind.flat] at hf
  | .sl _, _, _, _, hf, _, _ => by simp [Kind.flat] at hf
  | .pair a b, _, _, _, hf, h, h' => by
    simp only [Kind.flat, Bool.and_eq_true] at hf
    obtain ⟨c1, c2, rfl, h1, h2⟩ := h
    obtain ⟨d1, d2, rfl, g1, g2⟩ := h'
    obtain ⟨rfl, q1⟩ := RP.flat hf.1 h1 g1
    obtain ⟨rfl, q2⟩ := RP.flat hf.2 h2 g2
    exact ⟨rfl, fun u hu => by rcases List.mem_append.1 hu with hu | hu; exact q1 u hu; exact q2 u hu⟩
  | .arr n e, l, _, _, hf, h, h' => by
    simp only [Kind.flat] at hf
    obtain ⟨hl, css, rfl, h1⟩ := h
    obtain ⟨hl', css', rfl, h1'⟩ := h'
    have key : ∀ {l : List e.den} {css css' : List (List Value)}, All2 (RP F w e) l css → All2 (RP F' w' e) l css' → css = css' ∧ ∀ c ∈ css, ∀ u ∈ c, ∀ m, Instr.sameBits m u u = true := fun {l css css'} h1 => by
      induction h1 generalizing css' with
      | nil => intro h2; cases h2; exact ⟨rfl, by simp⟩
      | cons a _ ih =>
        intro h2
        cases h2 with
        | cons b h2 =>
          obtain ⟨rfl, q⟩ := ih h2
          obtain ⟨rfl, q'⟩ := RP.flat hf a b
          exact ⟨rfl, fun c hc => by rcases List.mem_cons.1 hc with rfl | hc; exact q'; exact q c hc⟩
    obtain ⟨rfl, q⟩ := key h1 h1'
    exact ⟨rfl, fun u hu => by obtain ⟨c, hc, hu⟩ := List.mem_flatten.1 hu; exact q c hc u hu⟩

theorem sameBits_agg {cs : List Value} (h : ∀ u ∈ cs, ∀ m, Instr.sameBits m u u = true) (m : Nat) : Instr.sameBits (m + 1) (.agg cs.toArray) (.agg cs.toArray) = true := by
  simp only [Instr.sameBits, beq_self_eq_true, Bool.true_and, List.all_eq_true]
  intro q hq
  have : q.1 = q.2 ∧ q.1 ∈ cs := by
    obtain ⟨i, hi⟩ := List.mem_iff_getElem?.1 hq
    simp only [List.getElem?_zip_eq_some] at hi
    obtain ⟨h1, h2⟩ := hi
    rw [h1] at h2
    exact ⟨Option.some.inj h2, List.mem_iff_getElem?.2 ⟨i, h1⟩⟩
  obtain ⟨x, y⟩ := q
  simp only at this ⊢
  rw [← this.1]; exact h x this.2 m

section
variable {P : Program} {E : Env A} (T : TyOK P E) {X : Cx}

include T in
theorem check_sound (em : Bool) : ∀ (m : Nat) (t : TypeId) (i : TI), E.ty.lookup t = some i → P.keyTypeAt m t = true → ∀ (d : Nat) (x : i.K.den) (a : Value) (w : World),
    RS0 X (.p i.K x) a → (Instr.checkKey em (d + m) t a).run P w = .ok () w
  | 0, _, _, _, hk => by simp [Program.keyTypeAt] at hk
  | m + 1, t, i, hi, hk => by
    intro d x a w ha
    obtain ⟨ds, hu, hd⟩ := T.desc hi
    obtain ⟨K, td, by', cm⟩ := i
    simp only at x ha hd
    simp only [Program.keyTypeAt, hu] at hk
    obtain ⟨c1, r1, v1⟩ := ha.data
    cases ds with
    | bool => simp [Instr.checkKey, run_underlying hu]
    | int k => simp [Instr.checkKey, run_underlying hu]
    | string => simp [Instr.checkKey, run_underlying hu]
    | array n e =>
      cases td <;> cases K <;> simp at hd
      rename_i n' e' n'' Ke
      obtain ⟨⟨⟨rfl, rfl⟩, rfl⟩, hd⟩ := hd
      obtain ⟨j, hj, hjK⟩ : ∃ j, E.ty.lookup e = some j ∧ j.K = Ke := by
        cases h : E.ty.lookup e with
        | none => rw [h] at hd; simp at hd
        | some j => rw [h] at hd; simp at hd; exact ⟨j, rfl, hd.1⟩
      subst hjK
      obtain ⟨hl1, css1, rfl, q1⟩ := r1
      have h1 := v1.elim (·.2) fun h => absurd h.1 (by simp [Kind.isAgg])
      subst h1
      have IH := check_sound em m e j hj hk d
      rw [show d + (m + 1) = (d + m) + 1 from rfl, Instr.checkKey]
      simp only [Sem.run_bind, run_underlying hu, Result.andThen_ok]
      simp only [Std.Legacy.Range.forIn_eq_forIn_range', Std.Legacy.Range.size, Nat.sub_zero, Nat.add_one_sub_one, Nat.div_one]
      have each : ∀ i ∈ List.range' 0 n, ∃ v y, (part e css1.flatten.toArray (i * j.K.size)).run P w = .ok v w ∧ RS0 X (.p j.K y) v := fun i hi => by
        have hi : i < n := by simpa using hi
        obtain ⟨y, hy⟩ : ∃ y, x[i]? = some y := ⟨x[i]'(by omega), List.getElem?_eq_getElem _⟩
        obtain ⟨c, hc, hrc⟩ := q1.get hy
        have hlen := RP.length hrc
        have e1 := flatten_cut q1.lens hc (o := 0) (n := j.K.size) (by omega)
        rw [Nat.add_zero, cut_all c hlen.symm] at e1
        obtain ⟨v, h7, h8⟩ := part_sound T hj (X := X) (y := .p j.K y) (cs := css1.flatten) (off := i * j.K.size) (by simp [AV.fits]) (by rw [e1]; exact hrc) w
        exact ⟨v, y, h7, h8⟩
      generalize List.range' 0 n = is at each
      induction is with
      | nil => simp
      | cons q is ih =>
        obtain ⟨v, y, p1, f1⟩ := each q (by simp)
        have p2 := IH y v w f1
        simp only [List.forIn_cons, Sem.run_bind, T.runSize hj w, Result.andThen_ok, p1, p2, Sem.run_pure]
        exact ih (fun y hy => each y (by simp [hy]))
    | struct fs =>
      simp only [Bool.and_eq_true, Bool.not_eq_true'] at hk
      cases td with
      | struct ts =>
        have hd : fieldsB E.ty fs.toList ts K 0 = true := hd
        have hag : K.isAgg = true := by
          cases hf : fs.toList <;> cases ts <;> cases K <;> simp [hf, fieldsB] at hd <;> rfl
        have h1 := v1.elim (·.2) fun h => absurd h.1 (by rw [hag]; simp)
        subst h1
        rw [show d + (m + 1) = (d + m) + 1 from rfl, Instr.checkKey]
        simp only [Sem.run_bind, run_underlying hu, Result.andThen_ok]
        rw [← Array.forIn_toList]
        have deep : ∀ f ∈ fs.toList, f.name ≠ "_" ∧ P.keyTypeAt m f.type = true := fun f hf => by
          have := Array.all_eq_true_iff_forall_mem.1 hk.1.1 f (Array.mem_toList_iff.1 hf)
          simp only [Bool.and_eq_true, bne_iff_ne, ne_eq] at this
          exact ⟨this.1, this.2⟩
        have each : ∀ f ∈ fs.toList, ∃ j, E.ty.lookup f.type = some j ∧ ∃ v y, (part f.type c1.toArray f.offset).run P w = .ok v w ∧ RS0 X (.p j.K y) v := by
          have gen : ∀ (fs : List Field) (ts : List TypeId) (K : Kind) (x : K.den) (off : Nat) (pre cs : List Value), fieldsB E.ty fs ts K off = true → pre.length = off → RP X.F X.w K x cs →
              ∀ f ∈ fs, ∃ j, E.ty.lookup f.type = some j ∧ ∃ v y, (part f.type (pre ++ cs).toArray f.offset).run P w = .ok v w ∧ RS0 X (.p j.K y) v := by
            intro fs
            induction fs with
            | nil => intro ts K x off pre cs _ _ _ f hf; cases hf
            | cons f fs ih =>
              intro ts K x off pre cs hb hp hr g hg
              cases ts with
              | nil => simp [fieldsB] at hb
              | cons t ts =>
                cases K with
                | pair a b =>
                  simp only [fieldsB, Bool.and_eq_true, beq_iff_eq, decide_eq_true_eq] at hb
                  obtain ⟨⟨⟨⟨rfl, hoff⟩, hpos⟩, hl⟩, hb⟩ := hb
                  obtain ⟨d1, d2, rfl, r1, r2⟩ := hr
                  cases h : E.ty.lookup f.type with
                  | none => rw [h] at hl; cases hl
                  | some j =>
                    rw [h] at hl
                    have hjK : j.K = a := by simpa using hl
                    subst hjK
                    rcases List.mem_cons.1 hg with rfl | hg
                    · refine ⟨j, h, ?_⟩
                      have hlen := RP.length r1
                      obtain ⟨v, h7, h8⟩ := part_sound T h (X := X) (y := .p j.K x.1) (cs := pre ++ (d1 ++ d2)) (off := g.offset) (by simp [AV.fits]) (by
                        rw [hoff, ← hp, show pre.length = pre.length + 0 from rfl, cut_append_right, cut_append_left (by omega), cut_all _ hlen.symm]; exact r1) w
                      exact ⟨v, x.1, h7, h8⟩
                    · have := ih ts b x.2 (off + j.K.size) (pre ++ d1) d2 hb (by simp [hp, RP.length r1]) r2 g hg
                      simpa using this
                | _ => simp [fieldsB] at hb
          exact fun f hf => by simpa using gen fs.toList ts K x 0 [] c1 hd rfl r1 f hf
        generalize fs.toList = L at each deep
        clear hd
        induction L with
        | nil => simp
        | cons f L ih =>
          obtain ⟨j, hj, v, y, p1, f1⟩ := each f (by simp)
          obtain ⟨hn, hp⟩ := deep f (by simp)
          have p2 := check_sound em m f.type j hj hp d y v w f1
          simp only [List.forIn_cons, Sem.run_bind, hn, ne_eq, not_false_eq_true, if_true, Result.andThen_ok, p1, p2, Sem.run_pure]
          exact ih (fun y hy => each y (by simp [hy])) (fun y hy => deep y (by simp [hy]))
      | prim => cases K <;> simp at hd
      | slice _ => cases K <;> simp at hd
      | array _ _ => cases K <;> simp at hd
      | map _ _ => cases K <;> simp at hd
      | ptr _ => cases K <;> simp at hd
      | other => cases K <;> simp at hd
    | _ => simp at hk

/-- The evaluator's map against the model's search. -/
theorem find_sound (hT : TyOK P E) {kt : TypeId} {i : TI} (hi : E.ty.lookup kt = some i) (hk : P.keyTypeAt 100 kt = true) {x : i.K.den} {a : Value} (ha : RS0 X (.p i.K x) a) (w : World) {V : Kind} (v : V.den) :
    ∀ (es : List (i.K.den × V.den)) (mes : List MapEntry), All2 (fun e (me : MapEntry) => RS0 X (.p i.K e.1) me.key ∧ RS0 X (.p V e.2) me.val) es mes → ∀ start, ∃ r, (Instr.findAsking kt a mes start).run P w = .ok r w ∧
      ((r = none ∧ mget i.K es x = none ∧ mset i.K es x v = es ++ [(x, v)] ∧ mdel i.K es x = es) ∨
       ∃ j e me, r = some (start + j, me.val) ∧ es[j]? = some e ∧ mes[j]? = some me ∧ e.1 = x ∧ mget i.K es x = some e.2 ∧ mset i.K es x v = es.set j (x, v) ∧ mdel i.K es x = es.eraseIdx j) := by
  intro es mes h
  induction h with
  | nil => exact fun start => ⟨none, by simp [Instr.findAsking], .inl ⟨rfl, rfl, rfl, rfl⟩⟩
  | @cons e me es mes h1 h2 ih =>
    intro start
    obtain ⟨r, hr, hiff⟩ := equalIn_sound hT 100 kt i hi hk 9900 x e.1 a me.key w ha h1.1
    have hr' : (Op.equal kt a me.key).run P w = .ok r w := hr
    have hd : @decide (e.1 = x) (i.K.dec e.1 x) = r := dec_eq (hiff.trans ⟨Eq.symm, Eq.symm⟩)
    cases r with
    | true =>
      have hx : e.1 = x := (hiff.1 rfl).symm
      exact ⟨some (start, me.val), by simp [Instr.findAsking, hr'], .inr ⟨0, e, me, rfl, rfl, rfl, hx, by simp [mget, hx], by simp [mset, hx], by simp [mdel, hx]⟩⟩
    | false =>
      have hx : e.1 ≠ x := fun h => by have := hiff.2 h.symm; cases this
      obtain ⟨r, h3, h4⟩ := ih (start + 1)
      refine ⟨r, by simp [Instr.findAsking, hr', h3], ?_⟩
      rcases h4 with ⟨rfl, g1, g2, g3⟩ | ⟨j, e', me', rfl, g1, g2, g3, g4, g5, g6⟩
      · exact .inl ⟨rfl, by simp [mget, hx, g1], by simp [mset, hx, g2], by simp [mdel, hx, g3]⟩
      · exact .inr ⟨j + 1, e', me', by rw [show start + 1 + j = start + (j + 1) by omega], by simpa using g1, by simpa using g2, g3, by simp [mget, hx, g4], by simp [mset, hx, g5], by simp [mdel, hx, g6]⟩

theorem kv_sound {out : A} {t : TypeId} {k : Kind → Kind → Option A} (h : E.kv t k = some out) : ∃ i a b ia ib, E.ty.lookup t = some i ∧ i.d = .map a b ∧ E.ty.lookup a = some ia ∧ E.ty.lookup b = some ib ∧ ia.cmp = true ∧ ia.K.isAgg = true ∧ ia.K.flat = true ∧ k ia.K ib.K = some out := by
  unfold Env.kv at h
  obtain ⟨i, hi, h⟩ := ti_sound h
  split at h
  · rename_i a b hd
    obtain ⟨ia, hia, h⟩ := ti_sound h
    obtain ⟨ib, hib, h⟩ := ti_sound h
    split at h
    · rename_i hc
      simp only [Bool.and_eq_true] at hc
      exact ⟨i, a, b, ia, ib, hi, hd, hia, hib, hc.1.1, hc.1.2, hc.2, h⟩
    · cases h
  · cases h

include T in
theorem TyOK.wide {t : TypeId} {i : TI} (hi : E.ty.lookup t = some i) (ha : i.K.isAgg = true) : (match P.underlying t with | some (.array _ _) | some (.struct _) => true | _ => false) = true := by
  obtain ⟨d, h1, h2⟩ := T.desc hi
  obtain ⟨K, td, by', cm⟩ := i
  rw [h1]
  cases d <;> first | rfl | (cases td <;> cases K <;> simp [Kind.isAgg] at h2 ha)

end

section
variable {P : Program} {E : Env A} (T : TyOK P E) {o : Oper} {ev : Operand → AV} {sub : List (Nat × Blk)} {fresh : Nat} {k : Cont A} {out : A}

include T in
theorem makeMap_sound {t : TypeId} {r : Option Operand} (h : (match r with | none => makeMapK E t fresh k | some x => asInt (ev x) fun _ => makeMapK E t fresh k) = some out) (ho : o.op = .makeMap t r) : ∃ v l, k v l = some out ∧ OpSem P o ev sub fresh v l := by
  have key : makeMapK E t fresh k = some out → (∀ (ac : Act) (X : Cx), At X ac o ev sub → r = none ∨ ∃ x q n, r = some x ∧ ac.eval x = .int q n) → ∃ v l, k v l = some out ∧ OpSem P o ev sub fresh v l := fun h hr => by
    obtain ⟨i, a, b, ia, ib, hi, hd, hia, hib, _, _, _, h⟩ := kv_sound h
    have hu := T.map hi hd
    refine ⟨_, _, h, opsem_new fun X ac at_ _ => ⟨.map (some X.w.heap.size), some X.w.heap.size, X.w.alloc (.map #[] 0), ?_, rfl, rfl, rfl, by simp, fun n hn => heap_alloc_old X.w _ hn, fun n hn => (Option.some.inj hn) ▸ Nat.le_refl _, fun Y hY W H => ?_⟩⟩
    · rcases hr ac X at_ with rfl | ⟨x, q, n, rfl, hx⟩
      · simp [execOp, ho, Instr.makeMap]
      · simp [execOp, ho, Instr.makeMap, run_underlying hu, hx, Go.asInt, asIntOf]
    · subst hY
      have hg : (hpSet X.hp fresh (.map ia.K ib.K []))[fresh]? = some (.map ia.K ib.K []) := hpSet_same ..
      exact ⟨⟨X.w.heap.size, #[], 0, upd_same .., heap_alloc_new X.w _, .nil⟩, (RS.one (by simp) (by simp) (by simp) (by simp)).2 ((R1_mp hg).2 ⟨X.w.heap.size, upd_same .., rfl⟩)⟩
  cases r with
  | none => exact key h fun _ _ _ => .inl rfl
  | some x =>
    obtain ⟨q, n, ex, h⟩ := asInt_sound h
    refine key h fun ac X at_ => .inr ⟨x, q, n, rfl, ?_⟩
    have := at_.opr x (by simp [Op.operands, ho])
    rw [ex, RS.int] at this; exact this

include T in
theorem lookup_sound {t : TypeId} {m x : Operand} {ok : Bool} (ho : o.op = .lookup t m x ok) (h : lookupK E t sub (ev m) (ev x) ok (fun v => k v []) = some out) : ∃ v l, k v l = some out ∧ OpSem P o ev sub fresh v l := by
  have mm : m ∈ o.op.operands := by simp [Op.operands, ho]
  have mx : x ∈ o.op.operands := by simp [Op.operands, ho]
  obtain ⟨i, a, b, ia, ib, hi, hd, hia, hib, hcmp, hagg, hflat, h⟩ := kv_sound h
  have hu := T.map hi hd
  have hk := (T.cmp hia hcmp).1
  split at h
  · rename_i id KK' y em ex
    obtain ⟨B, hB, h⟩ := look_sound h
    split at h
    · rename_i KK KV es
      split at h
      · rename_i hKK; subst hKK
        split at h
        · rename_i hKK; subst hKK
          split at h
          · rename_i hKV; subst hKV
            refine ⟨_, _, h, opsem_value fun X ac at_ => ?_⟩
            have h1 := at_.opr m mm; rw [em] at h1
            have h2 := (at_.opr x mx).to0 (by rw [ex]; simp)
            rw [ex] at h2
            have hX := at_.sub _ _ hB
            obtain ⟨b', h3, h4⟩ := (R1_mp hX).1 ((RS.one (by simp) (by simp) (by simp) (by simp)).1 h1)
            obtain ⟨b'', mes, clock, h5, h6, h7⟩ := at_.ok.blk _ _ hX
            rw [h3] at h5; cases h5
            obtain ⟨r, h8, h9⟩ := find_sound T hia hk h2 X.w ib.K.zero es mes.toList h7 0
            have hck := check_sound T mes.isEmpty 100 a ia hia hk 9900 y _ X.w h2
            have hck' : (Instr.checkKey mes.isEmpty 10000 a (ac.eval x)).run P X.w = .ok () X.w := hck
            have hfk : (Instr.findKey a (ac.eval x) mes.toList).run P X.w = .ok r X.w := by rw [run_findKey_eq X.w (T.wide hia hagg)]; exact h8
            obtain ⟨z, hz, hzr, _⟩ := T.zero hib X.w X
            have hgo : (getObj b').run P X.w = .ok (.map mes clock) X.w := by simp [getObj, Sem.run, h6]
            have fin : ∀ (u : Value) (y' : ib.K.den) (s : Bool), RS0 X (.p ib.K y') u → ((mget ia.K es y).getD ib.K.zero = y') → (mget ia.K es y).isSome = s → (execOp ac.eval o).run P X.w = .ok (.value (if ok then .tuple #[u, .bool s] else u)) X.w →
                ∃ u, (execOp ac.eval o).run P X.w = .ok (.value u) X.w ∧ RS X (if ok then .tup [.p ib.K ((mget ia.K es y).getD ib.K.zero), .p .bool (mget ia.K es y).isSome] else .p ib.K ((mget ia.K es y).getD ib.K.zero)) u := fun u y' s g1 g2 g3 g4 => by
              refine ⟨_, g4, ?_⟩
              rw [g2, g3]
              cases ok
              · exact RS.of0 g1 (by simp)
              · exact ⟨_, rfl, .cons g1 (.cons ((RS.bool.2 rfl : RS X (.p .bool s) _).to0 (by simp)) .nil)⟩
            rcases h9 with ⟨rfl, g1, _, _⟩ | ⟨j, e, me, rfl, g1, g2, g3, g4, _, _⟩
            · refine fin z _ false hzr (by rw [g1]; rfl) (by rw [g1]; rfl) ?_
              cases ok <;> simp [execOp, ho, Instr.lookup, run_underlying hu, h4, hgo, hck', hfk, hz]
            · obtain ⟨e', q1, q2⟩ := h7.get' g2
              rw [g1] at q1; cases q1
              refine fin me.val e.2 true q2.2 (by rw [g4]; rfl) (by rw [g4]; rfl) ?_
              cases ok <;> simp [execOp, ho, Instr.lookup, run_underlying hu, h4, hgo, hck', hfk]
          · cases h
        · cases h
      · cases h
    · cases h
  · cases h

include T in
theorem mapUpdate_sound {t : TypeId} {m x v : Operand} (ho : o.op = .mapUpdate t m x v ∨ o.op = .insert t m x v) (h : mapUpdateK E t sub (ev m) (ev x) (ev v) (fun l => k .any l) = some out) : ∃ v l, k v l = some out ∧ OpSem P o ev sub fresh v l := by
  have mm : m ∈ o.op.operands := by rcases ho with ho | ho <;> simp [Op.operands, ho]
  have mx : x ∈ o.op.operands := by rcases ho with ho | ho <;> simp [Op.operands, ho]
  have mv : v ∈ o.op.operands := by rcases ho with ho | ho <;> simp [Op.operands, ho]
  obtain ⟨i, a, b, ia, ib, hi, hd, hia, hib, hcmp, hagg, hflat, h⟩ := kv_sound h
  have hu := T.map hi hd
  have hk := (T.cmp hia hcmp).1
  split at h
  · rename_i id KK' y KV' z em ex ez
    obtain ⟨B, hB, h⟩ := look_sound h
    split at h
    · rename_i KK KV es
      split at h
      · rename_i hKK; subst hKK
        split at h
        · rename_i hKV; subst hKV
          split at h
          · rename_i hKK; subst hKK
            refine ⟨_, _, h, opsem_write hB rfl rfl (.map ..) fun X ac at_ => ?_⟩
            have h1 := at_.opr m mm; rw [em] at h1
            have h2 := (at_.opr x mx).to0 (by rw [ex]; simp)
            rw [ex] at h2
            have hv := (at_.opr v mv).to0 (by rw [ez]; simp)
            rw [ez] at hv
            have hX := at_.sub _ _ hB
            obtain ⟨b', h3, h4⟩ := (R1_mp hX).1 ((RS.one (by simp) (by simp) (by simp) (by simp)).1 h1)
            obtain ⟨b'', mes, clock, h5, h6, h7⟩ := at_.ok.blk _ _ hX
            rw [h3] at h5; cases h5
            obtain ⟨r, h8, h9⟩ := find_sound T hia hk h2 X.w z es mes.toList h7 0
            have hck' : (Instr.checkKey false 10000 a (ac.eval x)).run P X.w = .ok () X.w := check_sound T false 100 a ia hia hk 9900 y _ X.w h2
            have hfk : (Instr.findKey a (ac.eval x) mes.toList).run P X.w = .ok r X.w := by rw [run_findKey_eq X.w (T.wide hia hagg)]; exact h8
            have hgo : (getObj b').run P X.w = .ok (.map mes clock) X.w := by simp [getObj, Sem.run, h6]
            have hlt : b' < X.w.heap.size := (Array.getElem?_eq_some_iff.1 h6).1
            have fin : ∀ (mes' : Array MapEntry) (clock' : Nat), All2 (fun e (me : MapEntry) => RS0 X (.p ia.K e.1) me.key ∧ RS0 X (.p KV' e.2) me.val) (mset ia.K es y z) mes'.toList →
                (execOp ac.eval o).run P X.w = .ok .skip (setBlock X.w b' (.map mes' clock')) →
                ∃ (r : Next) (u : Value) (n : Nat) (w' : World), (execOp ac.eval o).run P X.w = .ok r w' ∧ (r = .value u ∨ (r = .skip ∧ u = undef)) ∧ X.ρ id = some n ∧
                w'.os = X.w.os ∧ w'.tape = X.w.tape ∧ w'.output = X.w.output ∧ X.w.heap.size ≤ w'.heap.size ∧ (∀ k, k < X.w.heap.size → k ≠ n → w'.heap[k]? = X.w.heap[k]?) ∧
                (∀ (c : Array Value) (e : TypeId) (f : Nat × Nat), X.w.heap[n]? = some (Obj.cells c e f) → ∃ c' : Array Value, w'.heap[n]? = some (Obj.cells c' e f) ∧ c'.size = c.size) ∧
                ∀ Y : Cx, Y = ⟨X.ρ, hpSet X.hp id (.map ia.K KV' (mset ia.K es y z)), X.F, w'⟩ → WEvo X Y → HEvo X Y → RB Y id (.map ia.K KV' (mset ia.K es y z)) ∧ RS Y .any u := by
              intro mes' clock' g1 g2
              refine ⟨.skip, undef, b', setBlock X.w b' (.map mes' clock'), g2, .inr ⟨rfl, rfl⟩, h3, rfl, rfl, rfl, by simp [setBlock], fun q _ hq => by simp [setBlock, Array.getElem?_setIfInBounds, Ne.symm hq], fun c e f hc => (by rw [h6] at hc; cases hc), fun Y hY W H => ?_⟩
              subst hY
              have hn : (setBlock X.w b' (.map mes' clock')).heap[b']? = some (.map mes' clock') := by simp [setBlock, Array.getElem?_setIfInBounds, hlt]
              exact ⟨⟨b', mes', clock', h3, hn, g1.imp fun _ _ _ _ hr => ⟨hr.1.evo W H at_.ok.fo, hr.2.evo W H at_.ok.fo⟩⟩, RS.any _⟩
            have hso : ∀ o', (setObj b' o').run P X.w = .ok () (setBlock X.w b' o') := fun o' => Go.MapKept.run_setObj_map o' h6
            rcases h9 with ⟨rfl, _, g2, _⟩ | ⟨j, e, me, rfl, g1, g2, g3, _, g5, _⟩
            · refine fin (mes.push ⟨ac.eval x, ac.eval v, clock⟩) (clock + 1) (by rw [g2, Array.toList_push]; exact h7.append (.cons ⟨h2, hv⟩ .nil)) ?_
              rcases ho with ho | ho <;> simp [execOp, ho, Instr.mapUpdate, run_underlying hu, h4, hgo, hck', hfk, hso]
            · obtain ⟨e', q1, q2⟩ := h7.get' g2
              rw [g1] at q1; cases q1
              rw [g3] at q2
              obtain ⟨c1, r1, v1⟩ := h2.data
              obtain ⟨c2, r2, v2⟩ := q2.1.data
              obtain ⟨rfl, hsb⟩ := RP.flat hflat r1 r2
              have e1 := v1.elim (·.2) fun h => absurd h.1 (by rw [hagg]; simp)
              have e2 := v2.elim (·.2) fun h => absurd h.1 (by rw [hagg]; simp)
              have hks : (Instr.keyThatStays me.key (ac.eval x)).run P X.w = .ok (ac.eval x) X.w := by
                rw [e1, e2]; simp [Instr.keyThatStays, sameBits_agg hsb 9999]
              have hme : mes[j]? = some me := by rw [← Array.getElem?_toList]; exact g2
              refine fin (mes.modify j fun e => { e with key := ac.eval x, val := ac.eval v }) clock ?_ ?_
              · rw [g5]
                refine All2.of_get (by simpa using h7.length) fun i q mq hq hmq => ?_
                rw [Array.toList_modify, List.getElem?_modify] at hmq
                by_cases hij : j = i
                · subst hij
                  rw [g2] at hmq
                  simp at hmq
                  have : (es.set j (y, z))[j]? = some (y, z) := by rw [List.getElem?_set_self (List.getElem?_eq_some_iff.1 g1).1]
                  rw [this] at hq; cases hq
                  subst hmq
                  exact ⟨h2, hv⟩
                · rw [List.getElem?_set_ne hij] at hq
                  obtain ⟨mq', s1, s2⟩ := h7.get hq
                  rw [s1] at hmq
                  simp [hij] at hmq
                  subst hmq; exact s2
              · rcases ho with ho | ho <;> simp [execOp, ho, Instr.mapUpdate, run_underlying hu, h4, hgo, hck', hfk, hme, hks, hso]
          · cases h
        · cases h
      · cases h
    · cases h
  · cases h

end
end Go.Ev
