import Derived.Test.YtbjoemlcakfkmaaDoorB2
import Derived.Test.YtbjoemlcakfkmaaDoorB0
import Derived.Calls
set_option linter.all false
section
/-
  THE EVALUATOR's OPERATIONS ARE THE MODEL's, MORE: an entry of a map taken for an operation and a store; delete, clear; pointers against nil.
-/
set_option linter.all false
namespace Go.Ev
open Go.ChangeMaps (setBlock)
variable {A : Type}

section
variable {P : Program} {E : Env A} (T : TyOK P E) {o : Oper} {ev : Operand → AV} {sub : List (Nat × Blk)} {fresh : Nat} {k : Cont A} {out : A}

theorem modify_all2 {α : Type} {R R' : α → MapEntry → Prop} {es : List α} {mes : List MapEntry} (h : All2 R es mes) (j : Nat) (e' : α) (f : MapEntry → MapEntry) {me : MapEntry} (hj : mes[j]? = some me)
    (hr : ∀ a b, R a b → R' a b) (h1 : R' e' (f me)) : All2 R' (es.set j e') (mes.modify j f) := by
  refine All2.of_get (by simpa using h.length) fun i q mq hq hmq => ?_
  rw [List.getElem?_modify] at hmq
  have hlt : j < es.length := by rw [h.length]; exact (List.getElem?_eq_some_iff.1 hj).1
  by_cases hij : j = i
  · subst hij
    rw [hj] at hmq
    simp at hmq
    rw [List.getElem?_set_self hlt] at hq; cases hq
    subst hmq
    exact h1
  · rw [List.getElem?_set_ne hij] at hq
    obtain ⟨mq', s1, s2⟩ := h.get hq
    rw [s1] at hmq
    simp [hij] at hmq
    subst hmq; exact hr _ _ s2

/-- Said of some operations besides: a value looked up hangs on little; an entry taken is a map written. -/
def Extra (P : Program) (o : Oper) (ev : Operand → AV) (sub : List (Nat × Blk)) (fresh : Nat) (v : AV) (l : List (Nat × Blk)) : Prop :=
  (∀ t m x, o.op = .lookup t m x false → l = [] ∧ ∃ (id : Nat) (KK KV : Kind) (es : List (KK.den × KV.den)) (y : KK.den), sub.lookup id = some (.map KK KV es) ∧
    ∀ B, (B = .map KK KV es ∨ ∃ es' x' g, B = .ment KK KV es' x' g ∧ (mget KK es' y).getD KV.zero = (mget KK es y).getD KV.zero) → OpSem P o ev [(id, B)] fresh v []) ∧
  (∀ t m x, o.op = .mapEntry t m x → ∃ (id : Nat) (KK KV : Kind) (es : List (KK.den × KV.den)) (x0 : KK.den), sub.lookup id = some (.map KK KV es) ∧
    l = [(fresh, .stp), (id, .ment KK KV (mset KK es x0 ((mget KK es x0).getD KV.zero)) x0 fresh)])

/-- A map written, and a stamp for one of its entries. -/
theorem opsem_entry {id : Nat} {KK KV : Kind} {es es' : List (KK.den × KV.den)} {x : KK.den} {v0 : AV} (hB : sub.lookup id = some (.map KK KV es))
    (h : ∀ (X : Cx) (a : Act), At X a o ev sub → ∃ (u0 : Value) (n b : Nat) (mes mes' : Array MapEntry) (clock clock' : Nat), (execOp a.eval o).run P X.w = .ok (.value (.tuple #[u0, goInt n])) (setBlock X.w b (.map mes' clock')) ∧
      X.ρ id = some b ∧ X.w.heap[b]? = some (.map mes clock) ∧ RS0 X v0 u0 ∧ All2 (fun e (me : MapEntry) => RS0 X (.p KK e.1) me.key ∧ RS0 X (.p KV e.2) me.val) es' mes'.toList ∧ BornOK mes'.toList clock' ∧
      ∃ j e me, es'[j]? = some e ∧ e.1 = x ∧ mes'.toList[j]? = some me ∧ me.born = n ∧ ∀ v, mset KK es' x v = es'.set j (x, v)) :
    OpSem P o ev sub fresh (.tup [v0, .mp fresh]) [(fresh, .stp), (id, .ment KK KV es' x fresh)] :=
  ⟨fun q hq => by
    rcases List.mem_cons.1 hq with rfl | hq
    · exact .inl (Nat.le_refl _)
    · simp at hq; subst hq; exact .inr ⟨_, hB⟩, fun X a K Q at_ hun hk => by
    obtain ⟨u0, n, b, mes, mes', clock, clock', hr, hρ, hh, hv0, hall, hbo, j, e, me, q1, q2, q3, q4, q5⟩ := h X a at_
    have hX := at_.sub _ _ hB
    have hf : X.unused fresh := hun (fresh, .stp) (by simp) (Nat.le_refl _)
    have hne : id ≠ fresh := hf.ne hX (by simp)
    have hlt : b < X.w.heap.size := (Array.getElem?_eq_some_iff.1 hh).1
    obtain ⟨ok1, W1, H1⟩ := stamp_ok at_.ok hf (q := some n) (Y := ⟨upd X.ρ fresh (some n), hpSet X.hp fresh .stp, X.F, X.w⟩) rfl
    have hb' : (setBlock X.w b (.map mes' clock')).heap[b]? = some (.map mes' clock') := by simp [setBlock, Array.getElem?_setIfInBounds, hlt]
    obtain ⟨ok2, W2, H2⟩ := write_ok ok1 (id := id) (n := b) (B := .map KK KV es) (B' := .ment KK KV es' x fresh) (hpSet_old _ _ _ hne hX) rfl ((upd_ne _ _ _ hne).trans hρ) (.mm ..) rfl
      (w' := setBlock X.w b (.map mes' clock')) (Y := ⟨upd X.ρ fresh (some n), hpSet (hpSet X.hp fresh .stp) id (.ment KK KV es' x fresh), X.F, setBlock X.w b (.map mes' clock')⟩) rfl rfl rfl rfl (by simp [setBlock])
      (fun q _ hq => by simp [setBlock, Array.getElem?_setIfInBounds, Ne.symm hq]) (fun c e f hc => by rw [hh] at hc; cases hc)
      (fun W H => ⟨b, mes', clock', (upd_ne _ _ _ hne).trans hρ, hb', hall.imp fun _ _ _ _ hr => ⟨(hr.1.evo W1 H1 at_.ok.fo).evo W H ok1.fo, (hr.2.evo W1 H1 at_.ok.fo).evo W H ok1.fo⟩, hbo,
        j, e, me, .stp, q1, q2, q3, hpSet_old _ _ _ (Ne.symm hne) (hpSet_same _ _ _), by simp, by rw [q4]; exact upd_same _ _ _, q5⟩)
    unfold Oper.wp; rw [hr]
    refine hk _ (.tuple #[u0, goInt n]) rfl ⟨_, rfl, .cons ((hv0.evo W1 H1 at_.ok.fo).evo W2 H2 ok1.fo) (.cons ?_ .nil)⟩ ok2 (W1.trans W2) (H1.trans H2)
    have := (R1_stp (X := ⟨upd X.ρ fresh (some n), hpSet (hpSet X.hp fresh .stp) id (.ment KK KV es' x fresh), X.F, setBlock X.w b (.map mes' clock')⟩) (id := fresh) (v := goInt n) (hpSet_old _ _ _ (Ne.symm hne) (hpSet_same _ _ _))).2 ⟨n, upd_same _ _ _, rfl⟩
    exact ((RS.one (by simp) (by simp) (by simp) (by simp)).2 this).to0 (by simp)⟩

include T in
theorem mapEntry_sound {t : TypeId} {m x : Operand} (ho : o.op = .mapEntry t m x) (h : mapEntryK E t sub (ev m) (ev x) fresh k = some out) : ∃ v l, k v l = some out ∧ OpSem P o ev sub fresh v l ∧ Extra P o ev sub fresh v l := by
  have mm : m ∈ o.op.operands := by simp [Op.operands, ho]
  have mx : x ∈ o.op.operands := by simp [Op.operands, ho]
  obtain ⟨i, a, b, ia, ib, hi, hd, hia, hib, hcmp, hagg, hflat, h⟩ := kv_sound h
  have hu := T.map hi hd
  have hk := (T.cmp hia hcmp).1
  split at h
  · rename_i id KK' y em ex
    obtain ⟨B, hB, h⟩ := look_sound h
    split at h
    · rename_i KK KV es
      split at h
      · rename_i hKK; subst hKK
        split at h
        · rename_i hKK; subst hKK
          split at h
          · rename_i hKV; subst hKV
            refine ⟨_, _, h, opsem_entry hB fun X ac at_ => ?_, fun t' m' x' h' => (by rw [ho] at h'; cases h'), fun t' m' x' _ => ⟨id, ia.K, ib.K, es, y, hB, rfl⟩⟩
            have h1 := at_.opr m mm; rw [em] at h1
            have h2 := (at_.opr x mx).to0 (by rw [ex]; simp)
            rw [ex] at h2
            have hX := at_.sub _ _ hB
            obtain ⟨b', h3, h4⟩ := (R1_mp hX).1 ((RS.one (by simp) (by simp) (by simp) (by simp)).1 h1)
            obtain ⟨b'', mes, clock, h5, h6, h7, hbo⟩ := at_.ok.blk _ _ hX
            rw [h3] at h5; cases h5
            obtain ⟨r, h8, h9⟩ := find_sound T hia hk h2 X.w es mes.toList h7 0
            have hck' : (Instr.checkKey false 10000 a (ac.eval x)).run P X.w = .ok () X.w := check_sound T false 100 a ia hia hk 9900 y _ X.w h2
            have hfk : (Instr.findKey a (ac.eval x) mes.toList).run P X.w = .ok r X.w := by rw [run_findKey_eq X.w (T.wide hia hagg)]; exact h8
            have hgo : (getObj b').run P X.w = .ok (.map mes clock) X.w := by simp [getObj, Sem.run, h6]
            have hso : ∀ o', (setObj b' o').run P X.w = .ok () (setBlock X.w b' o') := fun o' => Go.MapKept.run_setObj_map o' h6
            obtain ⟨z, hz, hzr, _⟩ := T.zero hib X.w X
            rcases h9 with ⟨rfl, g0, g2, _⟩ | ⟨j, e, me, rfl, g1, g2, g3, g4, g5, _⟩
            · refine ⟨z, clock, b', mes, mes.push ⟨ac.eval x, z, clock⟩, clock, clock + 1, ?_, h3, h6, by rw [g0]; exact hzr, ?_, ?_, es.length, (y, ib.K.zero), ⟨ac.eval x, z, clock⟩, ?_, rfl, ?_, rfl, fun v => ?_⟩
              · simp [execOp, ho, Instr.mapEntry, run_underlying hu, h4, hgo, hck', hfk, hso, hz]
              · rw [g0, g2, Array.toList_push]; exact h7.append (.cons ⟨h2, hzr⟩ .nil)
              · rw [Array.toList_push]; exact hbo.push _ _
              · rw [g0, g2]; simp
              · rw [Array.toList_push, h7.length]; simp
              · rw [mset_mset, g0, g2 v, g2]; simp
            · obtain ⟨e', q1, q2⟩ := h7.get' g2
              rw [g1] at q1; cases q1
              obtain ⟨c1, r1, v1⟩ := h2.data
              rw [g3] at q2
              obtain ⟨c2, r2, v2⟩ := q2.1.data
              obtain ⟨rfl, hsb⟩ := RP.flat hflat r1 r2
              have e1 := v1.elim (·.2) fun h => absurd h.1 (by rw [hagg]; simp)
              have e2 := v2.elim (·.2) fun h => absurd h.1 (by rw [hagg]; simp)
              have hks : (Instr.keyThatStays me.key (ac.eval x)).run P X.w = .ok (ac.eval x) X.w := by
                rw [e1, e2]; simp [Instr.keyThatStays, sameBits_agg hsb 9999]
              have hme : mes[j]? = some me := by rw [← Array.getElem?_toList]; exact g2
              have hlt : j < es.length := (List.getElem?_eq_some_iff.1 g1).1
              have hlt2 : j < mes.toList.length := (List.getElem?_eq_some_iff.1 g2).1
              refine ⟨me.val, me.born, b', mes, mes.modify j fun e => { e with key := ac.eval x }, clock, clock, ?_, h3, h6, by rw [g4]; exact q2.2, ?_, ?_, j, (y, e.2), { me with key := ac.eval x }, ?_, rfl, ?_, rfl, fun v => ?_⟩
              · simp [execOp, ho, Instr.mapEntry, run_underlying hu, h4, hgo, hck', hfk, hme, hks, hso]
              · rw [g4, g5, Array.toList_modify]
                exact modify_all2 h7 j _ _ g2 (fun _ _ h => h) ⟨h2, q2.2⟩
              · rw [Array.toList_modify]; exact hbo.same (born_modify _ _ _ fun _ => rfl)
              · rw [g4, g5, List.getElem?_set_self hlt]; rfl
              · rw [Array.toList_modify, List.getElem?_modify, g2]; simp
              · rw [mset_mset, g4, g5 v, g5, List.set_set]
          · cases h
        · cases h
      · cases h
    · cases h
  · cases h

theorem entryStore_sound {t : TypeId} {m s v : Operand} (ho : o.op = .entryStore t m s v) (h : entryStoreK sub (ev m) (ev s) (ev v) (fun l => k .any l) = some out) : ∃ v l, k v l = some out ∧ OpSem P o ev sub fresh v l := by
  have mm : m ∈ o.op.operands := by simp [Op.operands, ho]
  have ms : s ∈ o.op.operands := by simp [Op.operands, ho]
  have mv : v ∈ o.op.operands := by simp [Op.operands, ho]
  unfold entryStoreK at h
  split at h
  · rename_i id g KV' z em es' ez
    obtain ⟨B, hB, h⟩ := look_sound h
    split at h
    · rename_i KK KV es x g'
      split at h
      · rename_i hg; subst hg
        split at h
        · rename_i hKV; subst hKV
          obtain ⟨B2, hB2, h⟩ := look_sound h
          split at h
          · refine ⟨_, _, h, opsem_write hB rfl rfl (.me ..) fun X ac at_ => ?_⟩
            have h1 := at_.opr m mm; rw [em] at h1
            have hv := (at_.opr v mv).to0 (by rw [ez]; simp)
            rw [ez] at hv
            have hs := at_.opr s ms; rw [es'] at hs
            have hX := at_.sub _ _ hB
            have hX2 := at_.sub _ _ hB2
            obtain ⟨b', h3, h4⟩ := (R1_ment hX).1 ((RS.one (by simp) (by simp) (by simp) (by simp)).1 h1)
            obtain ⟨n, s3, s4⟩ := (R1_stp hX2).1 ((RS.one (by simp) (by simp) (by simp) (by simp)).1 hs)
            obtain ⟨b'', mes, clock, h5, h6, h7, hbo, j, e, me, bg, q1, q2, q3, q4, q5, q6, q7⟩ := at_.ok.blk _ _ hX
            rw [h3] at h5; cases h5
            rw [s3] at q6; cases q6
            have hgo : (getObj b').run P X.w = .ok (.map mes clock) X.w := by simp [getObj, Sem.run, h6]
            have hso : ∀ o', (setObj b' o').run P X.w = .ok () (setBlock X.w b' o') := fun o' => Go.MapKept.run_setObj_map o' h6
            have hlt : b' < X.w.heap.size := (Array.getElem?_eq_some_iff.1 h6).1
            obtain ⟨hj, hj2⟩ := List.getElem?_eq_some_iff.1 q3
            have hfind : mes.findIdx? (fun e => (e.born : Int) == (me.born : Int)) = some j := by
              rw [Array.findIdx?_eq_some_iff_getElem]
              refine ⟨by simpa using hj, ?_, fun i hi => ?_⟩
              · have : mes[j]'(by simpa using hj) = me := by rw [← hj2]; simp
                rw [this]; simp
              · have hij : i < mes.toList.length := by omega
                have hne : mes.toList[i].born ≠ mes.toList[j].born := fun he => by
                  have := List.pairwise_iff_getElem.1 hbo.1 i j (by simpa using hij) (by simpa using hj) hi
                  exact this (by simpa using he)
                rw [hj2] at hne
                simp at hne
                simp; omega
            refine ⟨.skip, undef, b', setBlock X.w b' (.map (mes.modify j fun e => { e with val := ac.eval v }) clock), ?_, .inr ⟨rfl, rfl⟩, h3, rfl, rfl, rfl, by simp [setBlock], fun q _ hq => by simp [setBlock, Array.getElem?_setIfInBounds, Ne.symm hq], fun c e f hc => (by rw [h6] at hc; cases hc), fun Y hY W H => ?_⟩
            · simp [execOp, ho, Instr.entryStore, h4, hgo, s4, goInt, Go.asInt, asIntOf, hfind, hso]
            · subst hY
              have hn : (setBlock X.w b' (.map (mes.modify j fun e => { e with val := ac.eval v }) clock)).heap[b']? = some (.map (mes.modify j fun e => { e with val := ac.eval v }) clock) := by simp [setBlock, Array.getElem?_setIfInBounds, hlt]
              obtain ⟨e', p1, p2⟩ := h7.get' q3
              rw [q1] at p1; cases p1
              rw [q2] at p2
              refine ⟨⟨b', _, clock, h3, hn, ?_, ?_⟩, RS.any _⟩
              · rw [q7, Array.toList_modify]
                exact modify_all2 h7 j _ _ q3 (fun _ _ hr => ⟨hr.1.evo W H at_.ok.fo, hr.2.evo W H at_.ok.fo⟩) ⟨p2.1.evo W H at_.ok.fo, hv.evo W H at_.ok.fo⟩
              · rw [Array.toList_modify]; exact hbo.same (born_modify _ _ _ fun _ => rfl)
          · cases h
        · cases h
      · cases h
    · cases h
  · cases h

include T in
theorem delete_sound {t : TypeId} {ts : List TypeId} {m x : Operand} {c : Call} (ho : o.op = .call c) (hc : c.callee = .builtin .delete) (ha : c.args.toList = [m, x]) (ht : c.argTypes.toList = t :: ts)
    (h : deleteK E t sub (ev m) (ev x) (k (.tup [])) = some out) : ∃ v l, k v l = some out ∧ OpSem P o ev sub fresh v l := by
  have ha' : c.args = #[m, x] := Array.toList_inj.1 ha
  have ht' : c.argTypes = (t :: ts).toArray := Array.toList_inj.1 (by simpa using ht)
  have mm : m ∈ o.op.operands := by simp [Op.operands, ho, Call.operands, hc, ha']
  have mx : x ∈ o.op.operands := by simp [Op.operands, ho, Call.operands, hc, ha']
  obtain ⟨i, a, b, ia, ib, hi, hd, hia, hib, hcmp, hagg, hflat, h⟩ := kv_sound h
  have hu := T.map hi hd
  have hk := (T.cmp hia hcmp).1
  split at h
  · rename_i id KK' y em ex
    obtain ⟨B, hB, h⟩ := look_sound h
    split at h
    · rename_i KK KV es
      split at h
      · rename_i hKK; subst hKK
        split at h
        · rename_i hKK; subst hKK
          refine ⟨_, _, h, opsem_write hB rfl rfl (.map ..) fun X ac at_ => ?_⟩
          have h1 := at_.opr m mm; rw [em] at h1
          have h2 := (at_.opr x mx).to0 (by rw [ex]; simp)
          rw [ex] at h2
          have hX := at_.sub _ _ hB
          obtain ⟨b', h3, h4⟩ := (R1_mp hX).1 ((RS.one (by simp) (by simp) (by simp) (by simp)).1 h1)
          obtain ⟨b'', mes, clock, h5, h6, h7, hbo⟩ := at_.ok.blk _ _ hX
          rw [h3] at h5; cases h5
          obtain ⟨r, h8, h9⟩ := find_sound T hia hk h2 X.w es mes.toList h7 0
          have hck' : (Instr.checkKey mes.isEmpty 10000 a (ac.eval x)).run P X.w = .ok () X.w := check_sound T mes.isEmpty 100 a ia hia hk 9900 y _ X.w h2
          have hfk : (Instr.findKey a (ac.eval x) mes.toList).run P X.w = .ok r X.w := by rw [run_findKey_eq X.w (T.wide hia hagg)]; exact h8
          have hgo : (getObj b').run P X.w = .ok (.map mes clock) X.w := by simp [getObj, Sem.run, h6]
          have hso : ∀ o', (setObj b' o').run P X.w = .ok () (setBlock X.w b' o') := fun o' => Go.MapKept.run_setObj_map o' h6
          have hlt : b' < X.w.heap.size := (Array.getElem?_eq_some_iff.1 h6).1
          have fin : ∀ (mes' : Array MapEntry), All2 (fun e (me : MapEntry) => RS0 X (.p ia.K e.1) me.key ∧ RS0 X (.p KV e.2) me.val) (mdel ia.K es y) mes'.toList → BornOK mes'.toList clock →
              (execOp ac.eval o).run P X.w = .ok (.value (.tuple #[])) (setBlock X.w b' (.map mes' clock)) →
              ∃ (r : Next) (u : Value) (n : Nat) (w' : World), (execOp ac.eval o).run P X.w = .ok r w' ∧ (r = .value u ∨ (r = .skip ∧ u = undef)) ∧ X.ρ id = some n ∧
              w'.os = X.w.os ∧ w'.tape = X.w.tape ∧ w'.output = X.w.output ∧ X.w.heap.size ≤ w'.heap.size ∧ (∀ k, k < X.w.heap.size → k ≠ n → w'.heap[k]? = X.w.heap[k]?) ∧
              (∀ (c : Array Value) (e : TypeId) (f : Nat × Nat), X.w.heap[n]? = some (Obj.cells c e f) → ∃ c' : Array Value, w'.heap[n]? = some (Obj.cells c' e f) ∧ c'.size = c.size) ∧
              ∀ Y : Cx, Y = ⟨X.ρ, hpSet X.hp id (.map ia.K KV (mdel ia.K es y)), X.F, w'⟩ → WEvo X Y → HEvo X Y → RB Y id (.map ia.K KV (mdel ia.K es y)) ∧ RS Y (.tup []) u := by
            intro mes' g1 hbo' g2
            refine ⟨.value (.tuple #[]), .tuple #[], b', setBlock X.w b' (.map mes' clock), g2, .inl rfl, h3, rfl, rfl, rfl, by simp [setBlock], fun q _ hq => by simp [setBlock, Array.getElem?_setIfInBounds, Ne.symm hq], fun c e f hc => (by rw [h6] at hc; cases hc), fun Y hY W H => ?_⟩
            subst hY
            have hn : (setBlock X.w b' (.map mes' clock)).heap[b']? = some (.map mes' clock) := by simp [setBlock, Array.getElem?_setIfInBounds, hlt]
            exact ⟨⟨b', mes', clock, h3, hn, g1.imp fun _ _ _ _ hr => ⟨hr.1.evo W H at_.ok.fo, hr.2.evo W H at_.ok.fo⟩, hbo'⟩, ⟨_, rfl, .nil⟩⟩
          rcases h9 with ⟨rfl, _, _, g3⟩ | ⟨j, e, me, rfl, g1, g2, _, _, _, g6⟩
          · refine fin mes (by rw [g3]; exact h7) hbo ?_
            simp [execOp, ho, resolve, hc, ha', invoke, builtin, Builtin.delete_, ht', run_underlying hu, h4, hgo, hck', hfk, hso]
          · refine fin (mes.eraseIdxIfInBounds j) ?_ ?_ ?_
            · rw [g6, Array.toList_eraseIdxIfInBounds]
              exact All2.of_get (by simp only [List.length_eraseIdx, h7.length]) fun i q mq hq hmq => by
                rw [List.getElem?_eraseIdx] at hq hmq
                split at hq
                · rename_i hl
                  rw [if_pos hl] at hmq
                  obtain ⟨mq', s1, s2⟩ := h7.get hq
                  rw [s1] at hmq; cases hmq; exact s2
                · rename_i hl
                  rw [if_neg hl] at hmq
                  obtain ⟨mq', s1, s2⟩ := h7.get hq
                  rw [s1] at hmq; cases hmq; exact s2
            · rw [Array.toList_eraseIdxIfInBounds]; exact hbo.sub (List.eraseIdx_sublist ..)
            · simp [execOp, ho, resolve, hc, ha', invoke, builtin, Builtin.delete_, ht', run_underlying hu, h4, hgo, hck', hfk, hso]
        · cases h
      · cases h
    · cases h
  · cases h

include T in
theorem clear_sound {t : TypeId} {ts : List TypeId} {m : Operand} {c : Call} (ho : o.op = .call c) (hc : c.callee = .builtin .clear) (ha : c.args.toList = [m]) (ht : c.argTypes.toList = t :: ts)
    (h : clearK E t sub (ev m) (k (.tup [])) = some out) : ∃ v l, k v l = some out ∧ OpSem P o ev sub fresh v l := by
  have ha' : c.args = #[m] := Array.toList_inj.1 ha
  have ht' : c.argTypes = (t :: ts).toArray := Array.toList_inj.1 (by simpa using ht)
  have mm : m ∈ o.op.operands := by simp [Op.operands, ho, Call.operands, hc, ha']
  obtain ⟨i, a, b, ia, ib, hi, hd, hia, hib, hcmp, hagg, hflat, h⟩ := kv_sound h
  have hu := T.map hi hd
  split at h
  · rename_i id em
    obtain ⟨B, hB, h⟩ := look_sound h
    split at h
    · rename_i KK KV es
      refine ⟨_, _, h, opsem_write hB rfl rfl (.map ..) fun X ac at_ => ?_⟩
      have h1 := at_.opr m mm; rw [em] at h1
      have hX := at_.sub _ _ hB
      obtain ⟨b', h3, h4⟩ := (R1_mp hX).1 ((RS.one (by simp) (by simp) (by simp) (by simp)).1 h1)
      obtain ⟨b'', mes, clock, h5, h6, h7, hbo⟩ := at_.ok.blk _ _ hX
      rw [h3] at h5; cases h5
      have hgo : (getObj b').run P X.w = .ok (.map mes clock) X.w := by simp [getObj, Sem.run, h6]
      have hso : ∀ o', (setObj b' o').run P X.w = .ok () (setBlock X.w b' o') := fun o' => Go.MapKept.run_setObj_map o' h6
      have hlt : b' < X.w.heap.size := (Array.getElem?_eq_some_iff.1 h6).1
      refine ⟨.value (.tuple #[]), .tuple #[], b', setBlock X.w b' (.map #[] clock), ?_, .inl rfl, h3, rfl, rfl, rfl, by simp [setBlock], fun q _ hq => by simp [setBlock, Array.getElem?_setIfInBounds, Ne.symm hq], fun c e f hc => (by rw [h6] at hc; cases hc), fun Y hY W H => ?_⟩
      · simp [execOp, ho, resolve, hc, ha', invoke, builtin, Builtin.clear_, ht', run_underlying hu, h4, hgo, hso]
      · subst hY
        have hn : (setBlock X.w b' (.map #[] clock)).heap[b']? = some (.map #[] clock) := by simp [setBlock, Array.getElem?_setIfInBounds, hlt]
        exact ⟨⟨b', #[], clock, h3, hn, .nil, .nil _⟩, ⟨_, rfl, .nil⟩⟩
    · cases h
  · cases h

-- ------------------------------------------------------------ what is looked up beside an entry that is taken

theorem mget_mset {K : Kind} {V : Type} : ∀ (es : List (K.den × V)) (x : K.den) (v : V) (y : K.den), mget K (mset K es x v) y = if @decide (x = y) (K.dec x y) then some v else mget K es y
  | [], x, v, y => by simp [mset, mget]
  | e :: r, x, v, y => by
    by_cases h : e.1 = x
    · subst h
      by_cases hy : e.1 = y
      · simp [mset, mget, hy]
      · simp [mset, mget, hy]
    · by_cases hy : x = y
      · subst hy
        simp [mset, mget, h, mget_mset r x v x]
      · simp only [mset, mget, h, decide_false, Bool.false_eq_true, if_false, mget_mset r x v y]
        by_cases hey : e.1 = y <;> simp [hey, hy]

theorem look_ment {K : Kind} {V : Type} (es : List (K.den × V)) (x y : K.den) (z : V) : (mget K (mset K es x ((mget K es x).getD z)) y).getD z = (mget K es y).getD z := by
  rw [mget_mset]
  by_cases h : x = y
  · subst h; simp
  · simp [h]

theorem mapAt {X : Cx} (ok : Ok X) {id : Nat} {B : Blk} {KK KV : Kind} {es : List (KK.den × KV.den)} (hX : X.hp[id]? = some B) (hB : B = .map KK KV es ∨ ∃ x g, B = .ment KK KV es x g) {u : Value} (h : RS X (.mp id) u) :
    ∃ b mes clock, u = .map (some b) ∧ X.w.heap[b]? = some (.map mes clock) ∧ All2 (fun e (me : MapEntry) => RS0 X (.p KK e.1) me.key ∧ RS0 X (.p KV e.2) me.val) es mes.toList := by
  have h1 := (RS.one (by simp) (by simp) (by simp) (by simp)).1 h
  rcases hB with rfl | ⟨x, g, rfl⟩
  · obtain ⟨b, h3, h4⟩ := (R1_mp hX).1 h1
    obtain ⟨b', mes, clock, h5, h6, h7, _⟩ := ok.blk _ _ hX
    rw [h3] at h5; cases h5
    exact ⟨b, mes, clock, h4, h6, h7⟩
  · obtain ⟨b, h3, h4⟩ := (R1_ment hX).1 h1
    obtain ⟨b', mes, clock, h5, h6, h7, _⟩ := ok.blk _ _ hX
    rw [h3] at h5; cases h5
    exact ⟨b, mes, clock, h4, h6, h7⟩

include T in
theorem lookup_extra {t : TypeId} {m x : Operand} (ho : o.op = .lookup t m x false) (h : lookupK E t sub (ev m) (ev x) false (fun v => k v []) = some out) : ∃ v l, k v l = some out ∧ OpSem P o ev sub fresh v l ∧ Extra P o ev sub fresh v l := by
  obtain ⟨v, l, hk', hsem⟩ := lookup_sound (fresh := fresh) T ho h
  have mm : m ∈ o.op.operands := by simp [Op.operands, ho]
  have mx : x ∈ o.op.operands := by simp [Op.operands, ho]
  obtain ⟨i, a, b, ia, ib, hi, hd, hia, hib, hcmp, hagg, hflat, h⟩ := kv_sound h
  have hu := T.map hi hd
  have hk := (T.cmp hia hcmp).1
  split at h
  · rename_i id KK' y em ex
    obtain ⟨B, hB, h⟩ := look_sound h
    split at h
    · rename_i KK KV es
      split at h
      · rename_i hKK; subst hKK
        split at h
        · rename_i hKK; subst hKK
          split at h
          · rename_i hKV; subst hKV
            have alt : ∀ B, (B = .map ia.K ib.K es ∨ ∃ es' x' g, B = .ment ia.K ib.K es' x' g ∧ (mget ia.K es' y).getD ib.K.zero = (mget ia.K es y).getD ib.K.zero) →
                OpSem P o ev [(id, B)] fresh (.p ib.K ((mget ia.K es y).getD ib.K.zero)) [] := fun B hBB => opsem_value fun X ac at_ => by
              have h1 := at_.opr m mm; rw [em] at h1
              have h2 := (at_.opr x mx).to0 (by rw [ex]; simp)
              rw [ex] at h2
              have hX : X.hp[id]? = some B := at_.sub _ _ (by simp [List.lookup])
              obtain ⟨es', hm, hz⟩ : ∃ es', (B = .map ia.K ib.K es' ∨ ∃ x g, B = .ment ia.K ib.K es' x g) ∧ (mget ia.K es' y).getD ib.K.zero = (mget ia.K es y).getD ib.K.zero := by
                rcases hBB with rfl | ⟨es', x', g, rfl, hz⟩
                · exact ⟨es, .inl rfl, rfl⟩
                · exact ⟨es', .inr ⟨x', g, rfl⟩, hz⟩
              obtain ⟨b', mes, clock, h4, h6, h7⟩ := mapAt at_.ok hX hm h1
              obtain ⟨r, h8, h9⟩ := find_sound T hia hk h2 X.w es' mes.toList h7 0
              have hck' : (Instr.checkKey mes.isEmpty 10000 a (ac.eval x)).run P X.w = .ok () X.w := check_sound T mes.isEmpty 100 a ia hia hk 9900 y _ X.w h2
              have hfk : (Instr.findKey a (ac.eval x) mes.toList).run P X.w = .ok r X.w := by rw [run_findKey_eq X.w (T.wide hia hagg)]; exact h8
              obtain ⟨z, hz', hzr, _⟩ := T.zero hib X.w X
              have hgo : (getObj b').run P X.w = .ok (.map mes clock) X.w := by simp [getObj, Sem.run, h6]
              rw [← hz]
              rcases h9 with ⟨rfl, g1, _, _⟩ | ⟨j, e, me, rfl, g1, g2, g3, g4, _, _⟩
              · refine ⟨z, by simp [execOp, ho, Instr.lookup, run_underlying hu, h4, hgo, hck', hfk, hz'], ?_⟩
                rw [g1]; exact RS.of0 hzr (by simp)
              · obtain ⟨e', q1, q2⟩ := h7.get' g2
                rw [g1] at q1; cases q1
                refine ⟨me.val, by simp [execOp, ho, Instr.lookup, run_underlying hu, h4, hgo, hck', hfk], ?_⟩
                rw [g4]; exact RS.of0 q2.2 (by simp)
            have sem : OpSem P o ev sub fresh (.p ib.K ((mget ia.K es y).getD ib.K.zero)) [] := by
              obtain ⟨s1, s2⟩ := alt (.map ia.K ib.K es) (.inl rfl)
              exact ⟨by simp, fun X ac K Q at_ hq hk => s2 X ac K Q ⟨at_.opr, at_.ok, at_.glo, fun id' b' hb' => by
                simp only [List.lookup_cons] at hb'
                by_cases he : id' = id
                · subst he; simp at hb'; rw [← hb']; exact at_.sub _ _ hB
                · rw [show (id' == id) = false by simpa using he] at hb'; simp at hb'⟩ hq hk⟩
            exact ⟨_, _, h, sem, fun t' m' x' _ => ⟨rfl, id, ia.K, ib.K, es, y, hB, alt⟩, fun t' m' x' h' => by rw [ho] at h'; cases h'⟩
          · cases h
        · cases h
      · cases h
    · cases h
  · cases h

-- ------------------------------------------------------------ pointers against nil

include T in
theorem TyOK.ptr {t e : TypeId} {i : TI} (h : E.ty.lookup t = some i) (hd : i.d = .ptr e) : P.underlying t = some (.pointer e) := by
  obtain ⟨d, h1, h2⟩ := T.desc h
  obtain ⟨K, td, by', cm⟩ := i
  simp only at hd; subst hd
  cases d <;> cases K <;> simp at h2
  subst h2
  exact h1

theorem run_nilEq {t e : TypeId} (hu : P.underlying t = some (.pointer e)) (p : Option Addr) (w : World) : (Op.equal t (.pointer p) (.pointer none)).run P w = .ok p.isNone w := by
  unfold Op.equal Op.maxDepth Op.equalIn
  cases p <;> simp [run_underlying hu]

theorem eqGuard_ptr {op : BinOp} {t e : TypeId} {x y : Operand} (hu : P.underlying t = some (.pointer e)) (a b : Option Addr) (w : World) : (eqGuard op t x y (.pointer a) (.pointer b)).run P w = .ok () w := by
  cases op <;> simp [eqGuard]

theorem nilB_sound {op : BinOp} {b : Bool} {c : AV → Option A} (h : nilB op b c = some out) : (op = .eql ∧ c (.p .bool b) = some out) ∨ (op = .neq ∧ c (.p .bool (!b)) = some out) := by
  unfold nilB at h
  split at h
  · exact .inl ⟨rfl, h⟩
  · exact .inr ⟨rfl, h⟩
  · cases h

include T in
theorem binS_sound {op : BinOp} {t yt : TypeId} {x y : Operand} (ho : o.op = .binOp op t x y yt) (h : binS E sub op t (ev x) (ev y) (fun v => k v []) = some out) : ∃ v l, k v l = some out ∧ OpSem P o ev sub fresh v l := by
  have mx : x ∈ o.op.operands := by simp [Op.operands, ho]
  have my : y ∈ o.op.operands := by simp [Op.operands, ho]
  unfold binS at h
  split at h
  · rename_i ey
    obtain ⟨i, hi, h⟩ := ti_sound h
    split at h
    · rename_i e hd
      have hu := T.ptr hi hd
      have fin : ∀ (b : Bool) (v : AV), (∀ (X : Cx) (ac : Act), At X ac o ev sub → ∃ p : Option Addr, ac.eval x = .pointer p ∧ p.isNone = b) → (op = .eql ∧ v = .p .bool b ∨ op = .neq ∧ v = .p .bool (!b)) → OpSem P o ev sub fresh v [] := fun b v hp hop => opsem_value fun X ac at_ => by
        obtain ⟨p, h1, h2⟩ := hp X ac at_
        have h3 : ac.eval y = .pointer none := by
          have := at_.opr y my; rw [ey] at this
          exact (RS.one (by simp) (by simp) (by simp) (by simp)).1 this
        rcases hop with ⟨rfl, rfl⟩ | ⟨rfl, rfl⟩
        · exact ⟨.bool b, by simp [execOp, ho, h1, h3, eqGuard_ptr hu, binOp, run_nilEq hu, h2], RS.bool.2 rfl⟩
        · exact ⟨.bool (!b), by simp [execOp, ho, h1, h3, eqGuard_ptr hu, binOp, run_nilEq hu, h2], RS.bool.2 rfl⟩
      split at h
      · rename_i ex
        have hp : ∀ (X : Cx) (ac : Act), At X ac o ev sub → ∃ p : Option Addr, ac.eval x = .pointer p ∧ p.isNone = true := fun X ac at_ => by
          have := at_.opr x mx; rw [ex] at this
          exact ⟨none, (RS.one (by simp) (by simp) (by simp) (by simp)).1 this, rfl⟩
        rcases nilB_sound h with ⟨h1, h2⟩ | ⟨h1, h2⟩
        · exact ⟨_, _, h2, fin true _ hp (.inl ⟨h1, rfl⟩)⟩
        · exact ⟨_, _, h2, fin true _ hp (.inr ⟨h1, rfl⟩)⟩
      · rename_i id q ex
        obtain ⟨K, h, hp⟩ := kindAt_sound h
        have hp' : ∀ (X : Cx) (ac : Act), At X ac o ev sub → ∃ p : Option Addr, ac.eval x = .pointer p ∧ p.isNone = false := fun X ac at_ => by
          have h1 := at_.opr x mx; rw [ex] at h1
          have h2 := (RS.one (by simp) (by simp) (by simp) (by simp)).1 h1
          obtain ⟨b, off, h3, _⟩ := hp X _ at_.sub h2
          exact ⟨_, h3, rfl⟩
        rcases nilB_sound h with ⟨h1, h2⟩ | ⟨h1, h2⟩
        · exact ⟨_, _, h2, fin false _ hp' (.inl ⟨h1, rfl⟩)⟩
        · exact ⟨_, _, h2, fin false _ hp' (.inr ⟨h1, rfl⟩)⟩
      · rename_i K z ex
        have hp : ∀ (X : Cx) (ac : Act), At X ac o ev sub → ∃ p : Option Addr, ac.eval x = .pointer p ∧ p.isNone = false := fun X ac at_ => by
          have := at_.opr x mx; rw [ex] at this
          obtain ⟨ad, cs, h1, _⟩ := (RS.one (by simp) (by simp) (by simp) (by simp)).1 this
          exact ⟨some ad, h1, rfl⟩
        rcases nilB_sound h with ⟨h1, h2⟩ | ⟨h1, h2⟩
        · exact ⟨_, _, h2, fin false _ hp (.inl ⟨h1, rfl⟩)⟩
        · exact ⟨_, _, h2, fin false _ hp (.inr ⟨h1, rfl⟩)⟩
      · cases h
    · cases h
  · exact bin_sound T ho h

end
end Go.Ev
end

section
/-
  NUMBERS: the evaluator's operations on whole numbers, as natural numbers. No project text.
-/
set_option linter.all false
namespace Go.Ev
variable {A : Type}

theorem wrap_u64 (x : Int) : IntKind.wrap .u64 x = x % 18446744073709551616 := by unfold IntKind.wrap; simp [IntKind.bits, IntKind.signed]
theorem wrap_u32 (x : Int) : IntKind.wrap .u32 x = x % 4294967296 := by unfold IntKind.wrap; simp [IntKind.bits, IntKind.signed]
theorem wrap_u16 (x : Int) : IntKind.wrap .u16 x = x % 65536 := by unfold IntKind.wrap; simp [IntKind.bits, IntKind.signed]
theorem wrap_u8 (x : Int) : IntKind.wrap .u8 x = x % 256 := by unfold IntKind.wrap; simp [IntKind.bits, IntKind.signed]
theorem wrap_i64 (x : Int) : IntKind.wrap .i64 x = (if x % 18446744073709551616 ≥ 9223372036854775808 then x % 18446744073709551616 - 18446744073709551616 else x % 18446744073709551616) := by
  unfold IntKind.wrap; simp [IntKind.bits, IntKind.signed]
theorem wrap_id {x : Int} (h1 : -9223372036854775808 ≤ x) (h2 : x < 9223372036854775808) : IntKind.wrap .i64 x = x := by
  rw [wrap_i64]; split <;> omega
theorem wrap_u64_nat (x : Nat) (h : x < 18446744073709551616) : IntKind.wrap .u64 (x : Int) = (x : Int) := by rw [wrap_u64]; omega
theorem wrap_u64_mod (x : Nat) : IntKind.wrap .u64 (x : Int) = ((x % 18446744073709551616 : Nat) : Int) := by rw [wrap_u64]; omega

theorem bits_u64 : IntKind.u64.bits = 64 := rfl
theorem bits_u32 : IntKind.u32.bits = 32 := rfl
theorem bits_u16 : IntKind.u16.bits = 16 := rfl
theorem bits_u8 : IntKind.u8.bits = 8 := rfl

theorem ofInt_nat (w x : Nat) : (BitVec.ofInt w (x : Int)).toNat = x % 2 ^ w := by
  rw [BitVec.ofInt_natCast, BitVec.toNat_ofNat]

theorem ior_u64 (a b : Nat) (ha : a < 18446744073709551616) (hb : b < 18446744073709551616) : ior .u64 (a : Int) (b : Int) = ((a ||| b : Nat) : Int) := by
  rw [ior_def]; unfold ior0
  rw [BitVec.toNat_or, ofInt_nat, ofInt_nat, bits_u64, Nat.mod_eq_of_lt (show a < 2 ^ 64 by omega), Nat.mod_eq_of_lt (show b < 2 ^ 64 by omega)]
  exact wrap_u64_nat _ (Nat.or_lt_two_pow (n := 64) (by omega) (by omega))
theorem iand_u64 (a b : Nat) (ha : a < 18446744073709551616) (hb : b < 18446744073709551616) : iand .u64 (a : Int) (b : Int) = ((a &&& b : Nat) : Int) := by
  rw [iand_def]; unfold iand0
  rw [BitVec.toNat_and, ofInt_nat, ofInt_nat, bits_u64, Nat.mod_eq_of_lt (show a < 2 ^ 64 by omega), Nat.mod_eq_of_lt (show b < 2 ^ 64 by omega)]
  exact wrap_u64_nat _ (Nat.and_lt_two_pow (n := 64) _ (by omega))
theorem ixor_u64 (a b : Nat) (ha : a < 18446744073709551616) (hb : b < 18446744073709551616) : ixor .u64 (a : Int) (b : Int) = ((a ^^^ b : Nat) : Int) := by
  rw [ixor_def]; unfold ixor0
  rw [BitVec.toNat_xor, ofInt_nat, ofInt_nat, bits_u64, Nat.mod_eq_of_lt (show a < 2 ^ 64 by omega), Nat.mod_eq_of_lt (show b < 2 ^ 64 by omega)]
  exact wrap_u64_nat _ (Nat.xor_lt_two_pow (n := 64) (by omega) (by omega))

theorem shl_u64 (x k : Nat) (hk : k ≤ 64) : shl .u64 (x : Int) (k : Int) = ((x * 2 ^ k % 18446744073709551616 : Nat) : Int) := by
  unfold shl
  rw [bits_u64, Int.toNat_natCast, Nat.min_eq_left hk, wrap_u64]
  have : (x : Int) * 2 ^ k = ((x * 2 ^ k : Nat) : Int) := by simp
  rw [this]; rfl
theorem shr_u64 (x k : Nat) (hk : k ≤ 64) : shr .u64 (x : Int) (k : Int) = ((x / 2 ^ k : Nat) : Int) := by
  unfold shr
  rw [bits_u64, Int.toNat_natCast, Nat.min_eq_left hk, Int.fdiv_eq_ediv_of_nonneg _ (by exact Int.le_of_lt (Int.pow_pos (by decide)))]
  simp

/-- What lies in a uint64. -/
def U64 (x : Int) : Prop := 0 ≤ x ∧ x < 18446744073709551616
theorem U64.nat {x : Int} (h : U64 x) : ∃ n : Nat, x = (n : Int) ∧ n < 18446744073709551616 := ⟨x.toNat, by have := h.1; omega, by have := h.2; have := h.1; omega⟩
theorem U64.wrap (x : Int) : U64 (IntKind.wrap .u64 x) := by unfold U64; rw [wrap_u64]; omega
theorem U64.of_nat {n : Nat} (h : n < 18446744073709551616) : U64 (n : Int) := ⟨by omega, by omega⟩
theorem U64.xor {a b : Int} (ha : U64 a) (hb : U64 b) : U64 (ixor .u64 a b) := by rw [ixor_def]; unfold ixor0; exact .wrap _
theorem U64.or {a b : Int} (ha : U64 a) (hb : U64 b) : U64 (ior .u64 a b) := by rw [ior_def]; unfold ior0; exact .wrap _

/-- Disjoint parts. -/
theorem or_parts (a b k : Nat) (h : b < 2 ^ k) : a * 2 ^ k ||| b = a * 2 ^ k + b := by
  rw [← Nat.shiftLeft_eq, ← Nat.shiftLeft_add_eq_or_of_lt h]

theorem deq_iff (K : Kind) (x y : K.den) : deq K x y = true ↔ x = y := by
  unfold deq
  exact ⟨fun h => @of_decide_eq_true _ (K.dec x y) h, fun h => @decide_eq_true _ (K.dec x y) h⟩
theorem deq_self (K : Kind) (x : K.den) : deq K x x = true := (deq_iff K x x).2 rfl

theorem tdiv_nat (a b : Nat) : Int.tdiv (a : Int) (b : Int) = ((a / b : Nat) : Int) := rfl
theorem tmod_nat (a b : Nat) : Int.tmod (a : Int) (b : Int) = ((a % b : Nat) : Int) := rfl

end Go.Ev
end

section
/-
  DIGITS: lists of digits to the base 65536, words of 64 bits, as numbers. No project text.
-/
set_option linter.all false
namespace Go.Ev
variable {A : Type}

def ints (l : List Nat) : List Int := l.map fun x : Nat => (x : Int)
theorem ints_length (l : List Nat) : (ints l).length = l.length := by simp [ints]
theorem ints_get (l : List Nat) (i : Nat) : (ints l)[i]? = (l[i]?).map fun x : Nat => (x : Int) := by simp [ints]
theorem ints_at (l : List Nat) (i : Nat) (h : i < l.length) : (ints l)[i]? = some ((l[i] : Nat) : Int) := by rw [ints_get, List.getElem?_eq_getElem h]; rfl
theorem ints_take (l : List Nat) (i : Nat) : (ints l).take i = ints (l.take i) := by simp [ints, List.map_take]
theorem ints_drop (l : List Nat) (i : Nat) : (ints l).drop i = ints (l.drop i) := by simp [ints, List.map_drop]
theorem ints_set (l : List Nat) (i x : Nat) : (ints l).set i (x : Int) = ints (l.set i x) := by simp [ints, List.map_set]
theorem ints_snoc (l : List Nat) (x : Nat) : ints l ++ [(x : Int)] = ints (l ++ [x]) := by simp [ints]
theorem ints_nil : ints [] = [] := rfl

/-- Digits, the lowest first. -/
def bval : List Nat → Nat
  | [] => 0
  | d :: r => d + 65536 * bval r
def Dig (l : List Nat) : Prop := ∀ x ∈ l, x < 65536

theorem Dig.take {l : List Nat} (h : Dig l) (n : Nat) : Dig (l.take n) := fun x hx => h x (List.mem_of_mem_take hx)
theorem Dig.drop {l : List Nat} (h : Dig l) (n : Nat) : Dig (l.drop n) := fun x hx => h x (List.mem_of_mem_drop hx)
theorem Dig.set {l : List Nat} (h : Dig l) (n : Nat) {v : Nat} (hv : v < 65536) : Dig (l.set n v) := fun x hx => by
  rcases List.mem_or_eq_of_mem_set hx with hx | rfl
  · exact h x hx
  · exact hv
theorem Dig.snoc {l : List Nat} (h : Dig l) {v : Nat} (hv : v < 65536) : Dig (l ++ [v]) := fun x hx => by
  rcases List.mem_append.1 hx with hx | hx
  · exact h x hx
  · simp at hx; subst hx; exact hv
theorem Dig.at {l : List Nat} (h : Dig l) {i : Nat} (hi : i < l.length) : l[i] < 65536 := h _ (List.getElem_mem hi)

theorem bval_append : ∀ (l m : List Nat), bval (l ++ m) = bval l + 65536 ^ l.length * bval m
  | [], m => by simp [bval]
  | d :: r, m => by
    simp only [List.cons_append, bval, bval_append r m, List.length_cons, Nat.pow_succ]
    rw [Nat.mul_add, Nat.mul_comm (65536 ^ r.length) 65536, Nat.mul_assoc]; omega
theorem bval_snoc (l : List Nat) (y : Nat) : bval (l ++ [y]) = bval l + 65536 ^ l.length * y := by rw [bval_append]; simp [bval]
theorem bval_lt : ∀ (l : List Nat), Dig l → bval l < 65536 ^ l.length
  | [], _ => by simp [bval]
  | b :: r, h => by
    have h1 := bval_lt r fun x hx => h x (by simp [hx])
    have h2 := h b (by simp)
    simp only [bval, List.length_cons, Nat.pow_succ]
    omega
theorem bval_zeros (z : Nat) : bval (List.replicate z 0) = 0 := by
  induction z with
  | zero => rfl
  | succ z ih => simp [List.replicate_succ, bval, ih]
theorem bval_drop {l : List Nat} {i : Nat} (h : i < l.length) : bval (l.drop i) = l[i] + 65536 * bval (l.drop (i + 1)) := by
  rw [List.drop_eq_getElem_cons h]; rfl
theorem bval_take {l : List Nat} {i : Nat} (h : i < l.length) : bval (l.take (i + 1)) = bval (l.take i) + 65536 ^ i * l[i] := by
  rw [List.take_succ, List.getElem?_eq_getElem h]
  simp only [Option.toList_some]
  rw [bval_snoc, List.length_take, Nat.min_eq_left (by omega)]
theorem bval_split (l : List Nat) (i : Nat) (h : i ≤ l.length) : bval l = bval (l.take i) + 65536 ^ i * bval (l.drop i) := by
  conv => lhs; rw [← List.take_append_drop i l]
  rw [bval_append, List.length_take, Nat.min_eq_left h]
theorem bval_set : ∀ (l : List Nat) (i v : Nat) (h : i < l.length), bval (l.set i v) + 65536 ^ i * l[i] = bval l + 65536 ^ i * v
  | d :: r, 0, v, _ => by simp only [List.set_cons_zero, bval, List.getElem_cons_zero, Nat.pow_zero, Nat.one_mul]; omega
  | d :: r, i + 1, v, h => by
    have ih := bval_set r i v (by simpa using h)
    simp only [List.set_cons_succ, bval, List.getElem_cons_succ, Nat.pow_succ]
    have e1 : 65536 ^ i * 65536 * r[i]'(by simpa using h) = 65536 * (65536 ^ i * r[i]'(by simpa using h)) := by rw [Nat.mul_comm (65536 ^ i) 65536, Nat.mul_assoc]
    have e2 : 65536 ^ i * 65536 * v = 65536 * (65536 ^ i * v) := by rw [Nat.mul_comm (65536 ^ i) 65536, Nat.mul_assoc]
    rw [e1, e2]; omega

/-- The digits of a number, without noughts at the end. -/
def dig (n : Nat) : List Nat := if n = 0 then [] else n % 65536 :: dig (n / 65536)
termination_by n
decreasing_by omega

theorem dig_zero : dig 0 = [] := by rw [dig]; rfl
theorem dig_pos {n : Nat} (h : n ≠ 0) : dig n = n % 65536 :: dig (n / 65536) := by rw [dig, if_neg h]
theorem dig_Dig (n : Nat) : Dig (dig n) := by
  induction n using Nat.strongRecOn with
  | _ n ih =>
    by_cases h : n = 0
    · subst h; rw [dig_zero]; intro x hx; cases hx
    · rw [dig_pos h]
      intro x hx
      rcases List.mem_cons.1 hx with rfl | hx
      · omega
      · exact ih (n / 65536) (by omega) x hx
theorem bval_dig (n : Nat) : bval (dig n) = n := by
  induction n using Nat.strongRecOn with
  | _ n ih =>
    by_cases h : n = 0
    · subst h; rw [dig_zero]; rfl
    · rw [dig_pos h]; simp only [bval]; rw [ih (n / 65536) (by omega)]; omega
theorem dig_nil {n : Nat} : dig n = [] ↔ n = 0 := by
  constructor
  · intro h; by_cases h0 : n = 0
    · exact h0
    · rw [dig_pos h0] at h; cases h
  · rintro rfl; exact dig_zero
theorem dig_len_le : ∀ (m n : Nat), n < 65536 ^ m → (dig n).length ≤ m
  | 0, n, h => by simp at h; subst h; rw [dig_zero]; simp
  | m + 1, n, h => by
    by_cases h0 : n = 0
    · subst h0; rw [dig_zero]; simp
    · rw [dig_pos h0]
      have := dig_len_le m (n / 65536) (by rw [Nat.pow_succ] at h; omega)
      simp; omega
theorem dig_len_lt : ∀ (m n : Nat), 65536 ^ m ≤ n → m < (dig n).length
  | 0, n, h => by
    have h0 : n ≠ 0 := by simp at h; omega
    rw [dig_pos h0]; simp
  | m + 1, n, h => by
    have hp : 0 < 65536 ^ m := Nat.pow_pos (by decide)
    rw [Nat.pow_succ] at h
    have h0 : n ≠ 0 := by omega
    rw [dig_pos h0]
    have := dig_len_lt m (n / 65536) (by omega)
    simp; omega

/-- Digits without a nought at the end are those of their number. -/
theorem dig_bval : ∀ (l : List Nat), Dig l → (l ≠ [] → l.getLast? ≠ some 0) → dig (bval l) = l
  | [], _, _ => dig_zero
  | [d], h, hn => by
    have hd := h d (by simp)
    have h0 : d ≠ 0 := fun e => hn (by simp) (by simp [e])
    simp only [bval]
    rw [dig_pos (by omega)]
    have e1 : (d + 65536 * 0) % 65536 = d := by omega
    have e2 : (d + 65536 * 0) / 65536 = 0 := by omega
    rw [e1, e2, dig_zero]
  | d :: e :: r, h, hn => by
    have ih := dig_bval (e :: r) (fun x hx => h x (List.mem_cons_of_mem _ hx)) (fun _ => by have := hn (by simp); rw [List.getLast?_cons_cons] at this; exact this)
    have hd := h d (by simp)
    have h1 : bval (e :: r) ≠ 0 := fun h0 => by rw [h0, dig_zero] at ih; cases ih
    have hb : bval (d :: e :: r) = d + 65536 * bval (e :: r) := rfl
    rw [hb, dig_pos (by omega)]
    have e1 : (d + 65536 * bval (e :: r)) % 65536 = d := by omega
    have e2 : (d + 65536 * bval (e :: r)) / 65536 = bval (e :: r) := by omega
    rw [e1, e2, ih]

/-- Noughts at the end left off. -/
theorem dig_take (l : List Nat) (hl : Dig l) (m : Nat) (hm : m ≤ l.length) (hz : ∀ i, m ≤ i → (h : i < l.length) → l[i] = 0) (hn : ∀ (h : 0 < m), l[m - 1]'(by omega) ≠ 0) : dig (bval l) = l.take m := by
  have h1 : bval (l.drop m) = 0 := by
    have : l.drop m = List.replicate (l.length - m) 0 := by
      rw [List.eq_replicate_iff]
      refine ⟨by simp, fun b hb => ?_⟩
      obtain ⟨i, hi⟩ := List.mem_iff_getElem?.1 hb
      rw [List.getElem?_drop] at hi
      obtain ⟨h2, h3⟩ := List.getElem?_eq_some_iff.1 hi
      rw [← h3]; exact hz (m + i) (by omega) h2
    rw [this, bval_zeros]
  rw [bval_split l m hm, h1, Nat.mul_zero, Nat.add_zero]
  refine dig_bval _ (hl.take m) fun hne hlast => ?_
  have hm0 : 0 < m := by
    rcases Nat.eq_zero_or_pos m with h | h
    · subst h; simp at hne
    · exact h
  have hlen : (l.take m).length = m := by simp; omega
  rw [List.getLast?_eq_getElem?, hlen, List.getElem?_take, if_pos (by omega)] at hlast
  obtain ⟨h2, h3⟩ := List.getElem?_eq_some_iff.1 hlast
  exact hn hm0 h3

theorem dig_lt_of_len {x y : Nat} (h : (dig x).length < (dig y).length) : x < y := by
  have h1 := bval_lt (dig x) (dig_Dig x)
  rw [bval_dig] at h1
  rcases Nat.lt_or_ge y (65536 ^ (dig x).length) with h2 | h2
  · have := dig_len_le _ _ h2; omega
  · omega

-- ------------------------------------------------------------ words

/-- Words of 64 bits, the lowest first. -/
def wval : List Nat → Nat
  | [] => 0
  | w :: r => w + 18446744073709551616 * wval r
def Wd (l : List Nat) : Prop := ∀ x ∈ l, x < 18446744073709551616

/-- Four words of a number. -/
def uw (x : Nat) : List Nat := [x % 18446744073709551616, x / 18446744073709551616 % 18446744073709551616, x / 340282366920938463463374607431768211456 % 18446744073709551616, x / 6277101735386680763835789423207666416102355444464034512896 % 18446744073709551616]

theorem wval_uw (x : Nat) (h : x < 115792089237316195423570985008687907853269984665640564039457584007913129639936) : wval (uw x) = x := by
  unfold uw
  simp only [wval]
  omega
theorem uw_Wd (x : Nat) : Wd (uw x) := fun y hy => by
  simp only [uw, List.mem_cons, List.not_mem_nil, or_false] at hy
  rcases hy with rfl | rfl | rfl | rfl <;> omega

end Go.Ev
end

section
/-
  MAPS AS LISTS: plain laws of mget, mset, mdel. No project text.
-/
set_option linter.all false
namespace Go.Ev
variable {A : Type}

section
variable {K : Kind} {V : Type}

def Uniq (m : List (K.den × V)) : Prop := (m.map (·.1)).Nodup

theorem mget_none : ∀ {m : List (K.den × V)} {x : K.den}, x ∉ m.map (·.1) → mget K m x = none
  | [], _, _ => rfl
  | e :: r, x, h => by
    simp only [List.map_cons, List.mem_cons, not_or] at h
    rw [mget, if_neg (by simpa using fun e => h.1 e.symm), mget_none h.2]

theorem mset_keys : ∀ (m : List (K.den × V)) (x : K.den) (v : V), (x ∈ m.map (·.1) ∧ (mset K m x v).map (·.1) = m.map (·.1)) ∨ (x ∉ m.map (·.1) ∧ (mset K m x v).map (·.1) = m.map (·.1) ++ [x])
  | [], x, v => .inr ⟨by simp, rfl⟩
  | e :: r, x, v => by
    by_cases h : e.1 = x
    · subst h; left; simp [mset]
    · rcases mset_keys r x v with ⟨h1, h2⟩ | ⟨h1, h2⟩
      · left
        refine ⟨by simp only [List.map_cons, List.mem_cons]; exact .inr h1, ?_⟩
        simp only [mset, h, decide_false, Bool.false_eq_true, if_false, List.map_cons, h2]
      · right
        refine ⟨by simp only [List.map_cons, List.mem_cons, not_or]; exact ⟨fun e => h e.symm, h1⟩, ?_⟩
        simp only [mset, h, decide_false, Bool.false_eq_true, if_false, List.map_cons, h2, List.cons_append]

theorem Uniq.nil : Uniq ([] : List (K.den × V)) := List.nodup_nil
theorem Uniq.mset {m : List (K.den × V)} (h : Uniq m) (x : K.den) (v : V) : Uniq (mset K m x v) := by
  unfold Uniq
  rcases mset_keys m x v with ⟨_, h2⟩ | ⟨h1, h2⟩
  · rw [h2]; exact h
  · rw [h2]
    refine List.nodup_append.2 ⟨h, by simp, fun a ha b hb e => ?_⟩
    simp at hb; subst hb; subst e; exact h1 ha

theorem mdel_sub : ∀ (m : List (K.den × V)) (x : K.den), ((mdel K m x).map (·.1)).Sublist (m.map (·.1))
  | [], _ => .slnil
  | e :: r, x => by
    by_cases h : e.1 = x
    · simp only [mdel, h, decide_true, if_true, List.map_cons]; exact .cons _ (List.Sublist.refl _)
    · simp only [mdel, h, decide_false, Bool.false_eq_true, if_false, List.map_cons]; exact (mdel_sub r x).cons₂ _
theorem Uniq.mdel {m : List (K.den × V)} (h : Uniq m) (x : K.den) : Uniq (mdel K m x) := (mdel_sub m x).nodup h
theorem mget_mdel_ne : ∀ (m : List (K.den × V)) {x y : K.den}, x ≠ y → mget K (mdel K m x) y = mget K m y
  | [], _, _, _ => rfl
  | e :: r, x, y, hne => by
    by_cases h : e.1 = x
    · have : e.1 ≠ y := fun e' => hne (h.symm.trans e')
      simp only [mdel, h, decide_true, if_true, mget]
      rw [if_neg (by simpa using this)]
    · simp only [mdel, h, decide_false, Bool.false_eq_true, if_false, mget, mget_mdel_ne r hne]
theorem mget_mdel_self : ∀ {m : List (K.den × V)} (x : K.den), Uniq m → mget K (mdel K m x) x = none
  | [], _, _ => rfl
  | e :: r, x, hu => by
    have hu' : e.1 ∉ r.map (·.1) ∧ Uniq r := by
      unfold Uniq at hu ⊢; rw [List.map_cons] at hu; exact List.nodup_cons.1 hu
    by_cases h : e.1 = x
    · subst h
      simp only [mdel, decide_true, if_true]
      exact mget_none hu'.1
    · simp only [mdel, h, decide_false, Bool.false_eq_true, if_false, mget, mget_mdel_self x hu'.2]
end

/-- How often: a number kept for a key. -/
def cnt (K : Kind) (m : List (K.den × Int)) (x : K.den) : Int := (mget K m x).getD 0
theorem cnt_nil {K : Kind} (x : K.den) : cnt K [] x = 0 := rfl
theorem cnt_mset {K : Kind} (m : List (K.den × Int)) (x : K.den) (v : Int) (y : K.den) : cnt K (mset K m x v) y = if @decide (x = y) (K.dec x y) then v else cnt K m y := by
  unfold cnt; rw [mget_mset]; split <;> rfl
theorem cnt_mset_self {K : Kind} (m : List (K.den × Int)) (x : K.den) (v : Int) : cnt K (mset K m x v) x = v := by rw [cnt_mset]; simp
theorem cnt_mset_ne {K : Kind} (m : List (K.den × Int)) {x y : K.den} (v : Int) (h : x ≠ y) : cnt K (mset K m x v) y = cnt K m y := by rw [cnt_mset]; simp [h]
theorem cnt_mdel_self {K : Kind} {m : List (K.den × Int)} (x : K.den) (h : Uniq m) : cnt K (mdel K m x) x = 0 := by unfold cnt; rw [mget_mdel_self x h]; rfl
theorem cnt_mdel_ne {K : Kind} (m : List (K.den × Int)) {x y : K.den} (h : x ≠ y) : cnt K (mdel K m x) y = cnt K m y := by unfold cnt; rw [mget_mdel_ne m h]

theorem deq_false {K : Kind} {x y : K.den} (h : x ≠ y) : deq K x y = false := by
  cases hd : deq K x y with
  | false => rfl
  | true => exact absurd ((deq_iff K x y).1 hd) h

end Go.Ev
end

section
/-
  NUMBERS CHANGED: what a state tells stays told when its blocks are numbered anew.
-/
namespace Go.Ev

/-- The same blocks under other numbers; 'sl': what is read in the blocks that nobody writes stays too. -/
structure Emb (X Z : Cx) (f : Nat → Option Nat) (sl : Bool) : Prop where
  hp : ∀ (id i : Nat) (b : Blk), f id = some i → X.hp[id]? = some b → Z.hp[i]? = some (b.ren f)
  ρ : ∀ (id i : Nat) (b : Blk), f id = some i → X.hp[id]? = some b → Z.ρ i = X.ρ id
  w : Z.w = X.w
  F : sl = true → ∀ b, X.F b → Z.F b

theorem RP.noSl {F F' : Nat → Prop} {w w' : World} : ∀ {K : Kind} {x : K.den} {cs : List Value}, K.hasSl = false → RP F w K x cs → RP F' w' K x cs
  | .int _, _, _, _, h => h
  | .bool, _, _, _, h => h
  | .str, _, _, _, h => h
  | .opq, _, _, _, h => h
  | .unit, _, _, _, h => h
  | .pair a b, _, _, hs, h => by
    simp only [Kind.hasSl, Bool.or_eq_false_iff] at hs
    obtain ⟨c1, c2, rfl, h1, h2⟩ := h
    exact ⟨c1, c2, rfl, RP.noSl hs.1 h1, RP.noSl hs.2 h2⟩
  | .arr n e, _, _, hs, h => by
    simp only [Kind.hasSl] at hs
    obtain ⟨hl, css, rfl, h1⟩ := h
    exact ⟨hl, css, rfl, h1.imp fun _ _ _ _ h => RP.noSl hs h⟩
  | .sl e, _, _, hs, _ => by simp [Kind.hasSl] at hs

section
variable {X Z : Cx} {f : Nat → Option Nat} {sl : Bool} (E : Emb X Z f sl)
include E

theorem Emb.data {K : Kind} {x : K.den} {cs : List Value} (hs : K.hasSl = true → sl = true) (h : RP X.F X.w K x cs) : RP Z.F Z.w K x cs := by
  cases hK : K.hasSl with
  | true => exact RP.mono (E.F (hs hK)) (fun b _ => by rw [E.w]) h
  | false => exact RP.noSl hK h

theorem R1.emb {v : AV} {u : Value} (hs : v.hasSl = true → sl = true) (h : R1 X v u) : R1 Z (v.ren1 f) u := by
  have ho := h.one
  cases v with
  | row id =>
    simp only [AV.ren1]
    cases hf : f id with
    | none => exact ho
    | some i =>
      simp only [R1] at h ⊢
      split at h
      · rename_i e K xs heq; rw [E.hp id i _ hf heq]; simp only [Blk.ren, E.ρ id i _ hf heq, E.w]; exact h
      · rename_i heq; rw [E.hp id i _ hf heq]; exact ho
      · exact h.elim
  | sub id lo len =>
    simp only [AV.ren1]
    cases hf : f id with
    | none => exact ho
    | some i =>
      simp only [R1] at h ⊢
      split at h
      · rename_i e K xs heq; rw [E.hp id i _ hf heq]; simp only [Blk.ren, E.ρ id i _ hf heq, E.w]; exact h
      · rename_i heq; rw [E.hp id i _ hf heq]; exact ho
      · exact h.elim
  | ptr id path =>
    simp only [AV.ren1]
    cases hf : f id with
    | none => exact ho
    | some i =>
      simp only [R1] at h ⊢
      split at h
      · rename_i e K xs heq; rw [E.hp id i _ hf heq]; simp only [Blk.ren, E.ρ id i _ hf heq, E.w]; exact h
      · rename_i e K xs heq; rw [E.hp id i _ hf heq]; simp only [Blk.ren, E.ρ id i _ hf heq, E.w]; exact h
      · rename_i heq; rw [E.hp id i _ hf heq]; exact ho
      · exact h.elim
  | slc id path lo len =>
    simp only [AV.ren1]
    cases hf : f id with
    | none => exact ho
    | some i =>
      simp only [R1] at h ⊢
      split at h
      · rename_i e K xs heq; rw [E.hp id i _ hf heq]; simp only [Blk.ren, E.ρ id i _ hf heq, E.w]; exact h
      · rename_i heq; rw [E.hp id i _ hf heq]; exact ho
      · exact h.elim
  | mp id =>
    simp only [AV.ren1]
    cases hf : f id with
    | none => exact ho
    | some i =>
      simp only [R1] at h ⊢
      split at h
      · rename_i e K xs heq; rw [E.hp id i _ hf heq]; simp only [Blk.ren, E.ρ id i _ hf heq, E.w]; exact h
      · rename_i heq; rw [E.hp id i _ hf heq]; simp only [Blk.ren, E.ρ id i _ hf heq, E.w]; exact h
      · rename_i heq; rw [E.hp id i _ hf heq]; exact ho
      · rename_i heq; rw [E.hp id i _ hf heq]; exact ho
      · exact h.elim
  | nilp => exact h
  | vp K x =>
    obtain ⟨ad, cs, rfl, hF, h1, h2⟩ := h
    have hsl := hs rfl
    exact ⟨ad, cs, rfl, E.F hsl _ hF, E.data (fun _ => hsl) h1, fun j u hu => by rw [E.w]; exact h2 j u hu⟩
  | any => exact h
  | p K x => exact h.elim
  | pr a b => exact h.elim
  | tup vs => exact h.elim

theorem RA.emb : ∀ {v : AV} {cs : List Value}, (v.hasSl = true → sl = true) → RA X v cs → RA Z (v.ren1 f) cs
  | .p K x, cs, hs, h => E.data hs h
  | .pr a b, cs, hs, h => by
    simp only [AV.hasSl, Bool.or_eq_true] at hs
    obtain ⟨c1, c2, rfl, h1, h2⟩ := h
    exact ⟨c1, c2, rfl, RA.emb (fun h => hs (.inl h)) h1, RA.emb (fun h => hs (.inr h)) h2⟩
  | .any, cs, hs, h => by obtain ⟨u, rfl, h⟩ := h; exact ⟨u, rfl, R1.emb E hs h⟩
  | .row id, cs, hs, h => by
    obtain ⟨u, rfl, h⟩ := h
    have := R1.emb E hs h
    simp only [AV.ren1] at this ⊢
    revert this
    cases f id <;> exact fun this => ⟨u, rfl, this⟩
  | .sub id _ _, cs, hs, h => by
    obtain ⟨u, rfl, h⟩ := h
    have := R1.emb E hs h
    simp only [AV.ren1] at this ⊢
    revert this
    cases f id <;> exact fun this => ⟨u, rfl, this⟩
  | .ptr id _, cs, hs, h => by
    obtain ⟨u, rfl, h⟩ := h
    have := R1.emb E hs h
    simp only [AV.ren1] at this ⊢
    revert this
    cases f id <;> exact fun this => ⟨u, rfl, this⟩
  | .slc id _ _ _, cs, hs, h => by
    obtain ⟨u, rfl, h⟩ := h
    have := R1.emb E hs h
    simp only [AV.ren1] at this ⊢
    revert this
    cases f id <;> exact fun this => ⟨u, rfl, this⟩
  | .mp id, cs, hs, h => by
    obtain ⟨u, rfl, h⟩ := h
    have := R1.emb E hs h
    simp only [AV.ren1] at this ⊢
    revert this
    cases f id <;> exact fun this => ⟨u, rfl, this⟩
  | .nilp, cs, hs, h => by obtain ⟨u, rfl, h⟩ := h; exact ⟨u, rfl, R1.emb E hs h⟩
  | .vp _ _, cs, hs, h => by obtain ⟨u, rfl, h⟩ := h; exact ⟨u, rfl, R1.emb E hs h⟩
  | .tup _, cs, hs, h => by obtain ⟨u, rfl, h⟩ := h; exact h.elim

omit E in
theorem ren1_agg {v : AV} : (v.ren1 f).agg = v.agg := by
  cases v <;> simp only [AV.ren1] <;> first | rfl | (rename_i id; cases f id <;> rfl) | (rename_i id _; cases f id <;> rfl) | (rename_i id _ _; cases f id <;> rfl) | (rename_i id _ _ _; cases f id <;> rfl)

theorem RS0.emb {v : AV} {u : Value} (hs : v.hasSl = true → sl = true) (h : RS0 X v u) : RS0 Z (v.ren1 f) u := by
  rcases h with h | ⟨cs, h1, h2⟩
  · left; cases v <;> first | exact h | cases h
  · exact .inr ⟨cs, RA.emb E hs h1, by rw [ren1_agg]; exact h2⟩

theorem RS.emb {v : AV} {u : Value} (hs : v.hasSl = true → sl = true) (h : RS X v u) : RS Z (v.ren f) u := by
  cases v with
  | tup vs =>
    obtain ⟨us, rfl, h⟩ := h
    refine ⟨us, rfl, ?_⟩
    have key : ∀ {vs : List AV} {us : List Value}, All2 (RS0 X) vs us → (∀ v ∈ vs, v.hasSl = true → sl = true) → All2 (RS0 Z) (vs.map fun v => v.ren1 f) us := fun {vs us} h => by
      induction h with
      | nil => intro _; exact .nil
      | cons h1 _ ih => intro hs; exact .cons (RS0.emb E (hs _ (by simp)) h1) (ih fun v hv => hs v (by simp [hv]))
    refine key h fun v hv hsl => hs ?_
    simp only [AV.hasSl, List.any_eq_true]
    refine ⟨v, hv, ?_⟩
    cases v <;> first | exact hsl | rfl
  | p K x => exact RS0.emb E hs h
  | pr a b => exact RS0.emb E hs h
  | any => exact RS.any _
  | nilp => exact RS0.emb E hs h
  | vp K x => exact RS0.emb E hs h
  | row id => have := RS0.emb E hs h; simp only [AV.ren, AV.ren1] at this ⊢; revert this; cases f id <;> exact fun this => this
  | sub id _ _ => have := RS0.emb E hs h; simp only [AV.ren, AV.ren1] at this ⊢; revert this; cases f id <;> exact fun this => this
  | ptr id _ => have := RS0.emb E hs h; simp only [AV.ren, AV.ren1] at this ⊢; revert this; cases f id <;> exact fun this => this
  | slc id _ _ _ => have := RS0.emb E hs h; simp only [AV.ren, AV.ren1] at this ⊢; revert this; cases f id <;> exact fun this => this
  | mp id => have := RS0.emb E hs h; simp only [AV.ren, AV.ren1] at this ⊢; revert this; cases f id <;> exact fun this => this

omit E in
theorem fits_ren1 : ∀ {v : AV} {K : Kind}, v.fits K = true → (v.ren1 f).fits K = true
  | .p _ _, _, h => h
  | .pr a b, .pair x y, h => by
    simp only [AV.fits, Bool.and_eq_true, AV.ren1] at h ⊢
    exact ⟨fits_ren1 h.1, fits_ren1 h.2⟩
  | .pr _ _, .int _, h => by simp [AV.fits] at h
  | .pr _ _, .bool, h => by simp [AV.fits] at h
  | .pr _ _, .str, h => by simp [AV.fits] at h
  | .pr _ _, .opq, h => by simp [AV.fits] at h
  | .pr _ _, .unit, h => by simp [AV.fits] at h
  | .pr _ _, .arr _ _, h => by simp [AV.fits] at h
  | .pr _ _, .sl _, h => by simp [AV.fits] at h
  | .any, _, h => h
  | .nilp, _, h => h
  | .vp _ _, _, h => h
  | .tup _, _, h => by cases h
  | .row id, K, h => by cases K <;> simp [AV.fits] at h; simp only [AV.ren1]; cases f id <;> rfl
  | .sub id _ _, K, h => by cases K <;> simp [AV.fits] at h; simp only [AV.ren1]; cases f id <;> rfl
  | .slc id _ _ _, K, h => by cases K <;> simp [AV.fits] at h; simp only [AV.ren1]; cases f id <;> rfl
  | .ptr id _, K, h => by cases K <;> simp [AV.fits] at h; simp only [AV.ren1]; cases f id <;> rfl
  | .mp id, K, h => by cases K <;> simp [AV.fits] at h; simp only [AV.ren1]; cases f id <;> rfl

omit E in
theorem ren_eq {v : AV} (h : ∀ vs, v ≠ .tup vs) : v.ren f = v.ren1 f := by cases v <;> first | rfl | exact absurd rfl (h _)

theorem RB.emb {id i : Nat} {b : Blk} (hf : f id = some i) (hb : X.hp[id]? = some b) (hs : b.hasSl = true → sl = true) (h : RB X id b) : RB Z i (b.ren f) := by
  cases b with
  | var t K v =>
    obtain ⟨h1, n, cs, h2, h3, h4⟩ := h
    have e := ren_eq (f := f) (fits_noTup h1)
    exact ⟨by rw [e]; exact fits_ren1 h1, n, cs, by rw [E.ρ id i _ hf hb]; exact h2, by rw [E.w]; exact h3, by rw [e]; exact RA.emb E hs h4⟩
  | row e K xs =>
    rcases h with ⟨h1, h2⟩ | ⟨n, cur, cap, css, h1, h2, h3, h4, h5, h6, h7⟩
    · exact .inl ⟨by rw [E.ρ id i _ hf hb]; exact h1, h2⟩
    · exact .inr ⟨n, cur, cap, css, by rw [E.ρ id i _ hf hb]; exact h1, by rw [E.w]; exact h2, h3, h4, h5, h6.imp fun _ _ _ _ hr => E.data hs hr, h7⟩
  | map KK KV es =>
    obtain ⟨n, mes, clock, h1, h2, h3, h4⟩ := h
    simp only [Blk.hasSl, Bool.or_eq_true] at hs
    have d : ∀ {K : Kind} {x : K.den} {u : Value}, (K.hasSl = true → sl = true) → RS0 X (.p K x) u → RS0 Z (.p K x) u := fun {K x u} hs h => RS0.emb E (v := .p K x) hs h
    exact ⟨n, mes, clock, by rw [E.ρ id i _ hf hb]; exact h1, by rw [E.w]; exact h2, h3.imp fun _ _ _ _ hr => ⟨d (fun h => hs (.inl h)) hr.1, d (fun h => hs (.inr h)) hr.2⟩, h4⟩
  | ment KK KV es x g =>
    obtain ⟨n, mes, clock, h1, h2, h3, h4, _⟩ := h
    simp only [Blk.hasSl, Bool.or_eq_true] at hs
    have d : ∀ {K : Kind} {x : K.den} {u : Value}, (K.hasSl = true → sl = true) → RS0 X (.p K x) u → RS0 Z (.p K x) u := fun {K x u} hs h => RS0.emb E (v := .p K x) hs h
    exact ⟨n, mes, clock, by rw [E.ρ id i _ hf hb]; exact h1, by rw [E.w]; exact h2, h3.imp fun _ _ _ _ hr => ⟨d (fun h => hs (.inl h)) hr.1, d (fun h => hs (.inr h)) hr.2⟩, h4⟩
  | stp => trivial
  | gone => trivial
  | free => trivial
end

end Go.Ev
end

section
/-
  CALLS: what a callee is told, what comes back.
-/
namespace Go.Ev
variable {A : Type}

/-- Where nothing is ours. -/
def X0 (F : Nat → Prop) (w : World) : Cx := ⟨fun _ => none, [], F, w⟩

/-- A call of a function, whether it has code or is the model's own. -/
def Applies (P : Program) (f : FuncId) (vals : Array Value) (w : World) (K : Value → World → Prop) : Prop :=
  ∃ nx w1, (callFunc f vals).run P w = .ok nx w1 ∧ ((∃ u, nx = .value u ∧ K u w1) ∨ (nx = .enter f vals ∧ Calls P f vals w1 fun e w' => ∃ u, e = .returned u ∧ K u w'))

/-- What a function does, told of what it is handed. -/
def FnSem (P : Program) (gl : GL) (f : FuncId) (args : List AV) (hp0 : List Blk) (r : AV) (hp : List Blk) : Prop :=
  ∀ (X : Cx) (vals : Array Value), X.hp = hp0 → Ok X → GOK gl X → All2 (RS X) args vals.toList →
    Applies P f vals X.w fun u w' => ∃ Y : Cx, Y.w = w' ∧ Y.hp = hp ∧ RS Y r u ∧ Ok Y ∧ WEvo X Y ∧ PEvo hp0.length X Y

def FnOK (P : Program) (gl : GL) (f : FuncId) (en : Entry A) : Prop :=
  ∀ (args : List AV) (hp0 : List Blk) (k : AV → List Blk → Option A) (out : A), en.run args hp0 k = some out → ∃ r hp, k r hp = some out ∧ FnSem P gl f args hp0 r hp

def FnsOK (P : Program) (E : Env A) : Prop := ∀ f en, E.fns.lookup f = some en → FnOK P E.gl f en

-- ------------------------------------------------------------ blocks assigned

theorem asg_out : ∀ (L : List (Nat × Blk)) (hp : List Blk) (j : Nat) (c : Blk), (∀ q ∈ L, q.1 ≠ j) → hp[j]? = some c → (asg hp L)[j]? = some c
  | [], _, _, _, _, h => h
  | q :: L, hp, j, c, hn, h => asg_out L _ j c (fun q hq => hn q (by simp [hq])) (hpSet_old _ _ _ (Ne.symm (hn q (by simp))) h)

theorem asg_in : ∀ (L : List (Nat × Blk)) (hp : List Blk) (j : Nat) (b : Blk), (∀ q ∈ L, q.1 = j → q.2 = b) → (∃ q ∈ L, q.1 = j) → (asg hp L)[j]? = some b
  | [], _, _, _, _, h => by obtain ⟨q, hq, _⟩ := h; cases hq
  | q :: L, hp, j, b, hu, h => by
    by_cases hL : ∃ q ∈ L, q.1 = j
    · exact asg_in L _ j b (fun q hq => hu q (by simp [hq])) hL
    · obtain ⟨p, hp', hpj⟩ := h
      rcases List.mem_cons.1 hp' with rfl | hp'
      · have e := hu p (by simp) hpj
        subst hpj
        exact asg_out L _ p.1 b (fun q hq hj => hL ⟨q, hq, hj⟩) (by rw [e]; exact hpSet_same ..)
      · exact absurd ⟨p, hp', hpj⟩ hL

theorem asg_cases : ∀ (L : List (Nat × Blk)) (hp : List Blk) (j : Nat) (c : Blk), (asg hp L)[j]? = some c → (∃ q ∈ L, q.1 = j ∧ q.2 = c) ∨ ((∀ q ∈ L, q.1 ≠ j) ∧ (hp[j]? = some c ∨ c = .free))
  | [], _, _, _, h => .inr ⟨by simp, .inl h⟩
  | q :: L, hp, j, c, h => by
    rcases asg_cases L _ j c h with ⟨p, hp', h1, h2⟩ | ⟨h1, h2⟩
    · exact .inl ⟨p, by simp [hp'], h1, h2⟩
    · by_cases hq : q.1 = j
      · subst hq
        rw [hpSet_same] at h2
        rcases h2 with h2 | rfl
        · cases h2; exact .inl ⟨q, by simp, rfl, rfl⟩
        · by_cases h3 : q.2 = .free
          · exact .inl ⟨q, by simp, rfl, h3⟩
          · -- the block there is q.2, and nothing else
            have := asg_out L (hpSet hp q.1 q.2) q.1 q.2 (fun p hp' => h1 p hp') (hpSet_same ..)
            have h' : (asg (hpSet hp q.1 q.2) L)[q.1]? = some .free := h
            rw [this] at h'; exact absurd (Option.some.inj h') h3
      · refine .inr ⟨fun p hp' => by rcases List.mem_cons.1 hp' with rfl | hp'; exact hq; exact h1 p hp', ?_⟩
        rcases h2 with h2 | h2
        · rcases hpSet_cases h2 with ⟨h3, _⟩ | ⟨_, h3⟩ | ⟨_, h3⟩
          · exact absurd h3.symm hq
          · exact .inl h3
          · exact .inr h3
        · exact .inr h2

-- ------------------------------------------------------------ what is handed over, as data

/-- The blocks that some numbers of ours stand for. -/
def Cx.Held (X : Cx) (ids : List Nat) (b : Nat) : Prop := ∃ id ∈ ids, ∃ blk, X.hp[id]? = some blk ∧ blk.live = true ∧ X.ρ id = some b

theorem BlkEvo.ren {b : Blk} {f : Nat → Option Nat} : (b.ren f).live = b.live := by cases b <;> rfl

theorem BlkEvo.unren {b b' : Blk} {f g : Nat → Option Nat} (h : BlkEvo (b.ren f) b') : BlkEvo b (b'.ren g) := by
  cases b with
  | var t K v => cases h with | gone => exact .gone _ | var => exact .var ..
  | row e K xs => cases h with | gone => exact .gone _ | row _ _ _ xs' hl => exact .row _ _ _ _ hl
  | map KK KV es => cases h with | gone => exact .gone _ | map => exact .map .. | mm => exact .map ..
  | ment KK KV es x g => cases h with | gone => exact .gone _ | map => exact .me .. | mm => exact .me ..
  | stp => cases h with | gone => exact .gone _
  | gone => cases h; exact .gone _
  | free => cases h; exact .gone _

theorem ren_free {b : Blk} {f : Nat → Option Nat} (h : b ≠ .free) : b.ren f ≠ .free := by cases b <;> simp_all [Blk.ren]

theorem disjointB_spec' {a b : List Nat} (h : disjointB a b = true) : ∀ x ∈ a, x ∉ b := fun x hx hb => by
  unfold disjointB at h
  rw [List.all_eq_true] at h
  have := h x hx
  simp [hb] at this

theorem closure_nodup (bid : Nat → List Nat) : ∀ (f : Nat) (l acc : List Nat), acc.Nodup → (closure bid f l acc).Nodup
  | 0, _, _, h => h
  | _ + 1, [], _, h => h
  | f + 1, id :: r, acc, h => by
    simp only [closure]
    split
    · exact closure_nodup bid f r acc h
    · rename_i hc
      refine closure_nodup bid f _ _ ?_
      rw [List.nodup_append]
      refine ⟨h, by simp, fun a ha b hb hab => ?_⟩
      simp at hb; subst hb; subst hab
      simp at hc; exact hc ha

theorem pos_get {l : List Nat} {id i : Nat} (h : pos l id = some i) : l[i]? = some id := by
  unfold pos at h
  split at h
  · rename_i j hj
    cases h
    rw [List.findIdx?_eq_some_iff_getElem] at hj
    obtain ⟨h1, h2, _⟩ := hj
    rw [List.getElem?_eq_getElem h1]
    simp at h2; rw [h2]
  · cases h

/-- The blocks of some numbers, numbered anew; 'G': what is told as data from now on. -/
theorem renumber {X : Cx} {hp : List Blk} (hX : X.hp = hp) (ok : Ok X) {l : List Nat} (hl : l.Nodup) {G : List Nat} (hG : ∀ x ∈ G, x ∉ l) :
    ∃ Z : Cx, Z.w = X.w ∧ Z.hp = (l.map fun id => (hp.getD id .gone).ren (pos l)) ∧ Z.F = (fun b => X.F b ∨ X.Held G b) ∧ Ok Z ∧ WEvo X Z ∧ Emb X Z (pos l) true := by
  subst hX
  have EM : Emb X ⟨fun i => (l[i]?).bind X.ρ, l.map fun id => (X.hp.getD id .gone).ren (pos l), fun b => X.F b ∨ X.Held G b, X.w⟩ (pos l) true := by
    refine ⟨fun id i b hf hb => ?_, fun id i b hf hb => ?_, rfl, fun _ b hb => .inl hb⟩
    · have := pos_get hf
      simp only [List.getElem?_map, this, Option.map_some, List.getD_eq_getElem?_getD, hb, Option.getD_some]
    · have := pos_get hf
      simp only [this, Option.bind_some]
  have at_ : ∀ (i : Nat) (b : Blk), (l.map fun id => (X.hp.getD id .gone).ren (pos l))[i]? = some b → ∃ id, l[i]? = some id ∧ b = (X.hp.getD id .gone).ren (pos l) := fun i b hb => by
    rw [List.getElem?_map, Option.map_eq_some_iff] at hb
    obtain ⟨id, h1, h2⟩ := hb
    exact ⟨id, h1, h2.symm⟩
  have posOf : ∀ i id, l[i]? = some id → pos l id = some i := fun i id hi => by
    unfold pos
    have : l.findIdx? (· == id) = some i := by
      rw [List.findIdx?_eq_some_iff_getElem]
      obtain ⟨h1, h2⟩ := List.getElem?_eq_some_iff.1 hi
      refine ⟨h1, by simp [h2], fun j hj => ?_⟩
      simp only [beq_iff_eq, Bool.not_eq_true]
      have hne : l[j]'(by omega) ≠ id := fun e => by
        rw [← h2] at e
        exact (List.pairwise_iff_getElem.1 hl) j i (by omega) h1 hj e
      simpa using hne
    rw [this]
  have live : ∀ (i : Nat) (b : Blk), (l.map fun id => (X.hp.getD id .gone).ren (pos l))[i]? = some b → b.live = true → ∃ (id : Nat) (c : Blk), l[i]? = some id ∧ X.hp[id]? = some c ∧ c.live = true ∧ b = c.ren (pos l) := fun i b hb hlv => by
    obtain ⟨id, h1, rfl⟩ := at_ i b hb
    rw [BlkEvo.ren] at hlv
    cases hc : X.hp[id]? with
    | none => rw [List.getD_eq_getElem?_getD, hc] at hlv; cases hlv
    | some c => rw [List.getD_eq_getElem?_getD, hc] at hlv ⊢; exact ⟨id, c, h1, hc, hlv, rfl⟩
  have own : ∀ b, Cx.Own ⟨fun i => (l[i]?).bind X.ρ, l.map fun id => (X.hp.getD id .gone).ren (pos l), fun b => X.F b ∨ X.Held G b, X.w⟩ b → ∃ (i id : Nat) (c : Blk), l[i]? = some id ∧ X.hp[id]? = some c ∧ c.live = true ∧ X.ρ id = some b := fun b ⟨i, blk, h1, h2, h3⟩ => by
    obtain ⟨id, c, g1, g2, g3, _⟩ := live i blk h1 h2
    simp only [g1, Option.bind_some] at h3
    exact ⟨i, id, c, g1, g2, g3, h3⟩
  refine ⟨⟨fun i => (l[i]?).bind X.ρ, l.map fun id => (X.hp.getD id .gone).ren (pos l), fun b => X.F b ∨ X.Held G b, X.w⟩, rfl, rfl, rfl, ⟨fun i b hb => ?_, fun i i' b c c' h1 h2 h3 h4 h5 h6 => ?_, fun b hb => ?_⟩, ⟨rfl, rfl, rfl, Nat.le_refl _, fun _ c _ _ h => ⟨c, h, rfl⟩, fun _ _ _ => rfl, fun b _ ho => ?_, fun b hb => .inl hb, fun b hb => ?_⟩, EM⟩
  · by_cases hlv : b.live = true
    · obtain ⟨id, c, g1, g2, g3, rfl⟩ := live i b hb hlv
      exact RB.emb EM (posOf i id g1) g2 (fun _ => rfl) (ok.blk id c g2)
    · cases b <;> first | trivial | (simp [Blk.live] at hlv)
  · obtain ⟨id, d, g1, g2, g3, _⟩ := live i c h1 h2
    obtain ⟨id', d', k1, k2, k3, _⟩ := live i' c' h3 h4
    simp only [g1, k1, Option.bind_some] at h5 h6
    have e := ok.inj id id' b d d' g2 g3 k2 k3 h5 h6
    subst e
    have := posOf i id g1
    rw [posOf i' id k1] at this
    exact (Option.some.inj this).symm
  · rcases hb with hb | ⟨g, hg, blk, h1, h2, h3⟩
    · refine ⟨(ok.fo b hb).1, fun ho => ?_⟩
      obtain ⟨i, id, c, g1, g2, g3, g4⟩ := own b ho
      exact (ok.fo b hb).2 ⟨id, c, g2, g3, g4⟩
    · refine ⟨ok.lt ⟨g, blk, h1, h2, h3⟩, fun ho => ?_⟩
      obtain ⟨i, id, c, g1, g2, g3, g4⟩ := own b ho
      have e := ok.inj g id b blk c h1 h2 g2 g3 h3 g4
      subst e
      exact hG g hg (List.mem_of_getElem? g1)
  · obtain ⟨i, id, c, g1, g2, g3, g4⟩ := own b ho
    exact ⟨id, c, g2, g3, g4⟩
  · rcases hb with hb | ⟨g, hg, blk, h1, h2, h3⟩
    · exact .inl hb
    · exact .inr (.inl ⟨g, blk, h1, h2, h3⟩)

theorem pos_of {l : List Nat} (hl : l.Nodup) {i id : Nat} (hi : l[i]? = some id) : pos l id = some i := by
  unfold pos
  have : l.findIdx? (· == id) = some i := by
    rw [List.findIdx?_eq_some_iff_getElem]
    obtain ⟨h1, h2⟩ := List.getElem?_eq_some_iff.1 hi
    refine ⟨h1, by simp [h2], fun j hj => ?_⟩
    simp only [beq_iff_eq, Bool.not_eq_true]
    have hne : l[j]'(by omega) ≠ id := fun e => by
      rw [← h2] at e
      exact (List.pairwise_iff_getElem.1 hl) j i (by omega) h1 hj e
    simpa using hne
  rw [this]

theorem pureK_leaf {out : A} {sub : List (Nat × Blk)} {v : AV} {k : AV → Option A} (h : (listK sub v fun K xs => k (.p (.sl K) xs)) = some out) (hid : ∃ id, v.ids = [id]) (h1 : ∀ K x, v ≠ .p K x) (h2 : ∀ a b, v ≠ .pr a b) (hagg : v.agg = false) :
      ∃ K x, k (.p K x) = some out ∧ (∀ id ∈ v.ids, ∃ c, sub.lookup id = some c ∧ c.live = true) ∧ ∀ {X : Cx} {F : Nat → Prop} {cs : List Value}, Ok X → (∀ (id : Nat) (b : Blk), sub.lookup id = some b → X.hp[id]? = some b) →
      (∀ b, X.F b → F b) → (∀ b, X.Held v.ids b → F b) → RA X v cs → RP F X.w K x cs ∧ v.agg = K.isAgg := by
    obtain ⟨K, ys, h', hl⟩ := listK_sound h
    refine ⟨.sl K, ys, h', ?_, fun {X F cs} ok hs hF hH hr => ⟨?_, by rw [hagg]; rfl⟩⟩
    · obtain ⟨id, hid⟩ := hid
      intro j hj
      rw [hid] at hj; simp at hj; subst hj
      cases v with
      | row i => simp [AV.ids] at hid; subst hid; obtain ⟨b, hb, h⟩ := look_sound h; refine ⟨b, hb, ?_⟩; cases b <;> first | rfl | (cases h)
      | sub i _ _ => simp [AV.ids] at hid; subst hid; obtain ⟨b, hb, h⟩ := look_sound h; refine ⟨b, hb, ?_⟩; cases b <;> first | rfl | (cases h)
      | slc i _ _ _ => simp [AV.ids] at hid; subst hid; obtain ⟨b, hb, h⟩ := look_sound h; refine ⟨b, hb, ?_⟩; cases b <;> first | rfl | (cases h)
      | pr a b => exact absurd rfl (h2 a b)
      | p K x => exact absurd rfl (h1 K x)
      | ptr _ _ => simp [listK] at h
      | mp _ => simp [listK] at h
      | _ => simp [AV.ids] at hid
    · obtain ⟨u, rfl, h3⟩ := (RA.single h1 h2).1 hr
      have hany : v ≠ .any := fun e => by rw [e] at hid; obtain ⟨_, h⟩ := hid; simp [AV.ids] at h
      have htup : ∀ vs, v ≠ .tup vs := fun vs e => by rw [e] at hid; obtain ⟨_, h⟩ := hid; simp [AV.ids] at h
      obtain ⟨ao, c, rfl, h4, h5⟩ := (hl X u ok hs ((RS.one h1 h2 hany htup).2 h3)).get
      refine ⟨ao, c, rfl, h4, fun hp => ?_⟩
      obtain ⟨ad, css, rfl, h6, h7, h8⟩ := h5 hp
      refine ⟨ad, css, rfl, ?_, h7.imp fun _ _ _ _ hr => RP.mono hF (fun _ _ => rfl) hr, h8⟩
      rcases h6 with h6 | ⟨id, hid, hρ, b, hb, hl⟩
      · exact hF _ h6
      · exact hH _ ⟨id, hid, b, hb, hl, hρ⟩

theorem pureK_sound {out : A} {sub : List (Nat × Blk)} : ∀ {v : AV} {k : AV → Option A}, pureK sub v k = some out →
    ∃ K x, k (.p K x) = some out ∧ (∀ id ∈ v.ids, ∃ c, sub.lookup id = some c ∧ c.live = true) ∧ ∀ {X : Cx} {F : Nat → Prop} {cs : List Value}, Ok X → (∀ (id : Nat) (b : Blk), sub.lookup id = some b → X.hp[id]? = some b) →
      (∀ b, X.F b → F b) → (∀ b, X.Held v.ids b → F b) → RA X v cs → RP F X.w K x cs ∧ v.agg = K.isAgg
  | .p K x, k, h => ⟨K, x, h, by simp [AV.ids], fun {X F cs} ok hs hF hH hr => ⟨RP.mono hF (fun _ _ => rfl) hr, rfl⟩⟩
  | .pr a b, k, h => by
    simp only [pureK] at h
    obtain ⟨K, x, h, s1, r1⟩ := pureK_sound h
    obtain ⟨K', x', h, s2, r2⟩ := pureK_sound h
    refine ⟨_, _, h, fun id hid => ?_, fun {X F cs} ok hs hF hH hr => ?_⟩
    · simp only [AV.ids, List.mem_append] at hid
      exact hid.elim (s1 id) (s2 id)
    · obtain ⟨c1, c2, rfl, h1, h2⟩ := hr
      obtain ⟨g1, _⟩ := r1 ok hs hF (fun b hb => hH b (by obtain ⟨id, h, r⟩ := hb; exact ⟨id, by simp [AV.ids, h], r⟩)) h1
      obtain ⟨g2, _⟩ := r2 ok hs hF (fun b hb => hH b (by obtain ⟨id, h, r⟩ := hb; exact ⟨id, by simp [AV.ids, h], r⟩)) h2
      exact ⟨⟨c1, c2, rfl, g1, g2⟩, rfl⟩
  | .row id, k, h => pureK_leaf (v := .row id) (by simpa [pureK] using h) ⟨id, by simp [AV.ids]⟩ (by simp) (by simp) rfl
  | .sub id a b, k, h => pureK_leaf (v := .sub id a b) (by simpa [pureK] using h) ⟨id, by simp [AV.ids]⟩ (by simp) (by simp) rfl
  | .slc id q a b, k, h => pureK_leaf (v := .slc id q a b) (by simpa [pureK] using h) ⟨id, by simp [AV.ids]⟩ (by simp) (by simp) rfl
  | .any, k, h => by simp [pureK] at h
  | .ptr _ _, k, h => by simp [pureK] at h
  | .vp _ _, k, h => by simp [pureK] at h
  | .mp _, k, h => by simp [pureK] at h
  | .nilp, k, h => by simp [pureK] at h
  | .tup _, k, h => by simp [pureK] at h
theorem own_noTup {v : AV} (h : v.isTup = false) : ∀ ws, v ≠ .tup ws := fun ws e => by subst e; cases h

/-- What one argument that is data comes to. -/
theorem pureK_RS {out : A} {sub : List (Nat × Blk)} {v : AV} {k : AV → Option A} (h : pureK sub v k = some out) :
    ∃ K x, k (.p K x) = some out ∧ (∀ id ∈ v.ids, ∃ c, sub.lookup id = some c ∧ c.live = true) ∧ ∀ {X Z : Cx} {u : Value}, Ok X → (∀ (id : Nat) (b : Blk), sub.lookup id = some b → X.hp[id]? = some b) →
      Z.w = X.w → (∀ b, X.F b → Z.F b) → (∀ b, X.Held v.ids b → Z.F b) → RS X v u → RS Z (.p K x) u := by
  have h0 := h
  obtain ⟨K, x, h, s1, r1⟩ := pureK_sound h
  refine ⟨K, x, h, s1, fun {X Z u} ok hs hw hF hH hu => ?_⟩
  have htup : ∀ ws, v ≠ .tup ws := fun ws e => by subst e; simp [pureK] at h0
  have hany : v.isAny = false := by cases v <;> first | rfl | (simp [pureK] at h0)
  rcases hu.to0 htup with h3 | ⟨cs, h3, h4⟩
  · rw [hany] at h3; cases h3
  · obtain ⟨g1, g2⟩ := r1 ok hs hF hH h3
    rw [← hw] at g1
    refine RS.of0 (.inr ⟨cs, g1, ?_⟩) (by simp)
    rw [g2] at h4; exact h4

theorem passK_sound {out : A} {sub : List (Nat × Blk)} : ∀ {os : List Bool} {vs : List AV} {k : List AV → Option A}, passK sub os vs k = some out →
    ∃ vs', k vs' = some out ∧ (∀ id ∈ pureIds os vs, ∃ c, sub.lookup id = some c ∧ c.live = true) ∧ (∀ id ∈ vs'.flatMap AV.ids, ∃ v ∈ vs, id ∈ v.ids) ∧ ∀ {X Z : Cx} {f : Nat → Option Nat} {us : List Value}, Ok X → (∀ (id : Nat) (b : Blk), sub.lookup id = some b → X.hp[id]? = some b) →
      Z.w = X.w → (∀ b, X.F b → Z.F b) → (∀ b, X.Held (pureIds os vs) b → Z.F b) → Emb X Z f true → All2 (RS X) vs us → All2 (RS Z) (vs'.map fun v => v.ren f) us
  | os, [], k, h => ⟨[], by cases os with | nil => exact h | cons b _ => cases b <;> exact h, by cases os with | nil => simp [pureIds] | cons b _ => cases b <;> simp [pureIds], by simp, fun _ _ _ _ _ _ h => by cases h; exact .nil⟩
  | true :: os, v :: vs, k, h => by
    simp only [passK] at h
    obtain ⟨vs', h, s2, s3, r2⟩ := passK_sound h
    refine ⟨_, h, by simpa [pureIds] using s2, fun id hid => ?_, fun {X Z f us} ok hs hw hF hH EM hr => ?_⟩
    · rw [List.flatMap_cons, List.mem_append] at hid
      rcases hid with hid | hid
      · exact ⟨v, by simp, hid⟩
      · obtain ⟨w, hw, h⟩ := s3 id hid; exact ⟨w, by simp [hw], h⟩
    · cases hr with
      | @cons _ u _ us hu hr => exact .cons (RS.emb EM (fun _ => rfl) hu) (r2 ok hs hw hF (by simpa [pureIds] using hH) EM hr)
  | false :: os, v :: vs, k, h => by
    simp only [passK] at h
    obtain ⟨K, x, h, s1, r1⟩ := pureK_RS h
    obtain ⟨vs', h, s2, s3, r2⟩ := passK_sound h
    refine ⟨_, h, fun id hid => ?_, fun id hid => ?_, fun {X Z f us} ok hs hw hF hH EM hr => ?_⟩
    · simp only [pureIds, List.mem_append] at hid; exact hid.elim (s1 id) (s2 id)
    · rw [List.flatMap_cons, List.mem_append] at hid
      rcases hid with hid | hid
      · simp [AV.ids] at hid
      · obtain ⟨w, hw, h⟩ := s3 id hid; exact ⟨w, by simp [hw], h⟩
    · cases hr with
      | @cons _ u _ us hu hr =>
        exact .cons (r1 ok hs hw hF (fun b hb => hH b (by obtain ⟨id, h, r⟩ := hb; exact ⟨id, by simp only [pureIds, List.mem_append]; exact .inl h, r⟩)) hu)
          (r2 ok hs hw hF (fun b hb => hH b (by obtain ⟨id, h, r⟩ := hb; exact ⟨id, by simp only [pureIds, List.mem_append]; exact .inr h, r⟩)) EM hr)
  | [], v :: vs, k, h => by
    simp only [passK] at h
    obtain ⟨K, x, h, s1, r1⟩ := pureK_RS h
    obtain ⟨vs', h, s2, s3, r2⟩ := passK_sound h
    refine ⟨_, h, fun id hid => ?_, fun id hid => ?_, fun {X Z f us} ok hs hw hF hH EM hr => ?_⟩
    · simp only [pureIds, List.mem_append] at hid; exact hid.elim (s1 id) (s2 id)
    · rw [List.flatMap_cons, List.mem_append] at hid
      rcases hid with hid | hid
      · simp [AV.ids] at hid
      · obtain ⟨w, hw, h⟩ := s3 id hid; exact ⟨w, by simp [hw], h⟩
    · cases hr with
      | @cons _ u _ us hu hr =>
        exact .cons (r1 ok hs hw hF (fun b hb => hH b (by obtain ⟨id, h, r⟩ := hb; exact ⟨id, by simp only [pureIds, List.mem_append]; exact .inl h, r⟩)) hu)
          (r2 ok hs hw hF (fun b hb => hH b (by obtain ⟨id, h, r⟩ := hb; exact ⟨id, by simp only [pureIds, List.mem_append]; exact .inr h, r⟩)) EM hr)

theorem argsV_sound {P : Program} {E : Env A} {ev : Operand → AV} {out : A} : ∀ {l : List (TypeId × Operand)} {k : List AV → Option A}, argsV E ev l k = some out →
    ∃ vs, k vs = some out ∧ (∀ v ∈ vs, ∀ id ∈ v.ids, ∃ q ∈ l, v = ev q.2) ∧ ∀ (X : Cx) (a : Act), (∀ q ∈ l, RS X (ev q.2) (a.eval q.2)) → All2 (RS X) vs (l.map fun q => a.eval q.2)
  | [], k, h => ⟨[], h, by simp, fun _ _ _ => .nil⟩
  | (t, x) :: r, k, h => by
    simp only [argsV, argV] at h
    split at h
    · obtain ⟨i, _, h⟩ := ti_sound h
      split at h
      · rename_i K _
        obtain ⟨vs, h, h1, h2⟩ := argsV_sound (P := P) h
        refine ⟨_, h, fun v hv id hid => ?_, fun X a hr => .cons ?_ (h2 X a fun q hq => hr q (by simp [hq]))⟩
        · rcases List.mem_cons.1 hv with rfl | hv
          · simp [AV.ids] at hid
          · obtain ⟨q, hq, e⟩ := h1 v hv id hid; exact ⟨q, by simp [hq], e⟩
        · exact RS.of0 (.inr ⟨[.slice none 0 0], ⟨none, 0, rfl, Nat.le_refl _, fun h => absurd h (by simp)⟩, .inr ⟨rfl, rfl⟩⟩) (by simp)
      · cases h
    · obtain ⟨vs, h, h1, h2⟩ := argsV_sound (P := P) h
      refine ⟨_, h, fun v hv id hid => ?_, fun X a hr => .cons (hr (t, x) (by simp)) (h2 X a fun q hq => hr q (by simp [hq]))⟩
      rcases List.mem_cons.1 hv with rfl | hv
      · exact ⟨(t, x), by simp, rfl⟩
      · obtain ⟨q, hq, e⟩ := h1 v hv id hid; exact ⟨q, by simp [hq], e⟩


section
variable {P : Program} {E : Env A} {o : Oper} {ev : Operand → AV} {sub : List (Nat × Blk)} {fresh : Nat} {k : Cont A} {out : A}

set_option maxHeartbeats 2000000 in
theorem call_sound (fns : FnsOK P E) (hev : ∀ g, ev (.global g) = glv E.gl g) {f : FuncId} {c : Call} (ho : o.op = .call c) (hc : c.callee = .value (.func f)) (hsz : c.argTypes.size = c.args.size)
    (h : (argsV E ev (c.argTypes.toList.zip c.args.toList) fun args => callK E f args sub fresh k) = some out) : ∃ v l, k v l = some out ∧ OpSem P o ev sub fresh v l := by
  have marg : ∀ x ∈ c.args, x ∈ o.op.operands := fun x hx => by simp [Op.operands, ho, Call.operands, hc, hx]
  have hzip : (c.argTypes.toList.zip c.args.toList).map (·.2) = c.args.toList := by
    rw [List.map_snd_zip]; simp [hsz]
  obtain ⟨args, h, _, hargs⟩ := argsV_sound (P := P) h
  unfold callK at h
  split at h
  · cases h
  · rename_i en hen
    obtain ⟨vs, h, hsub, _, hpass⟩ := passK_sound h
    have hnd : (closure (subIds sub) 1000 (vs.flatMap AV.ids) []).Nodup := closure_nodup _ _ _ _ (by simp)
    simp only at h
    generalize hl0 : closure (subIds sub) 1000 (vs.flatMap AV.ids) [] = l at h hnd
    generalize hpid : pureIds en.own args = pid at h hsub hpass
    cases hchk : disjointB pid l && l.all (fun id => ((sub.lookup id).getD .free).there) with
    | false => rw [hchk] at h; cases h
    | true =>
    rw [hchk] at h
    simp only [cond_true] at h
    rw [Bool.and_eq_true] at hchk
    have hdis : ∀ x ∈ pid, x ∉ l := disjointB_spec' hchk.1
    have hlk : ∀ id ∈ l, ∃ c, sub.lookup id = some c ∧ c ≠ .free := fun id hid => by
      have := (List.all_eq_true.1 hchk.2) id hid
      cases hq : sub.lookup id with
      | none => rw [hq] at this; cases this
      | some c => refine ⟨c, rfl, fun e => ?_⟩; rw [hq, e] at this; cases this
    obtain ⟨r, hp, h, hsem⟩ := fns f en hen _ _ _ out h
    -- the callee's numbers are ours
    have gl : ∀ i id, l[i]? = some id → backN l fresh i = id := fun i id hi => by unfold backN; rw [hi]
    have gn : ∀ i, l.length ≤ i → backN l fresh i = fresh + (i - l.length) := fun i hi => by unfold backN; rw [List.getElem?_eq_none hi]
    refine ⟨_, _, h, ?_, ?_⟩
    · intro q hq
      rcases List.mem_append.1 hq with hq | hq
      · right
        cases hsl : (r.hasSl || hp.any Blk.hasSl) with
        | false => rw [hsl] at hq; simp at hq
        | true =>
          rw [hsl] at hq
          simp only [cond_true, List.mem_map] at hq
          obtain ⟨id, hid, rfl⟩ := hq
          obtain ⟨c, hc, _⟩ := hsub id hid; exact ⟨c, hc⟩
      · simp only [List.mem_map] at hq
        obtain ⟨p, _, rfl⟩ := hq
        rcases Nat.lt_or_ge p.2 l.length with hlt | hge
        · right
          obtain ⟨c, hc, _⟩ := hlk l[p.2] (List.getElem_mem hlt)
          exact ⟨c, by rw [gl p.2 _ (List.getElem?_eq_getElem hlt)]; exact hc⟩
        · left; rw [gn _ hge]; exact Nat.le_add_right _ _
    · intro X a Kc Q at_ hun hk
      -- what the callee is told
      obtain ⟨C, cw, chp, cF, okC, WC, EC⟩ := renumber (X := X) rfl at_.ok hnd hdis
      have hr0 : All2 (RS X) args (c.args.map a.eval).toList := by
        have := hargs X a fun q hq => at_.opr _ (marg _ (by have := (List.of_mem_zip (a := q.1) (b := q.2) hq).2; simpa using this))
        rw [Array.toList_map, ← hzip, List.map_map]; exact this
      have hr1 : All2 (RS C) (vs.map fun v => v.ren (pos l)) (c.args.map a.eval).toList :=
        hpass at_.ok at_.sub cw (fun b hb => by rw [cF]; exact .inl hb) (fun b hb => by rw [cF]; exact .inr hb) EC hr0
      have hp0 : C.hp = l.map fun id => ((sub.lookup id).getD .gone).ren (pos l) := by
        rw [chp]
        refine List.map_congr_left fun id hid => ?_
        obtain ⟨c, hc, _⟩ := hlk id hid
        rw [List.getD_eq_getElem?_getD, at_.sub id c hc, hc]
      have hglo : GOK E.gl C := GOK.evo WC at_.ok.fo fun g => by rw [← hev g]; exact at_.glo g
      have hap := hsem C (c.args.map a.eval) hp0 okC hglo hr1
      rw [cw, List.length_map] at hap
      have lX : ∀ i id, l[i]? = some id → ∃ c, X.hp[id]? = some c ∧ c ≠ .free ∧ C.hp[i]? = some (c.ren (pos l)) ∧ C.ρ i = X.ρ id := fun i id hi => by
        obtain ⟨c, hc, hn⟩ := hlk id (List.mem_of_getElem? hi)
        have hx := at_.sub id c hc
        have hpo := pos_of hnd hi
        exact ⟨c, hx, hn, EC.hp id i c hpo hx, EC.ρ id i c hpo hx⟩
      have cown : ∀ b, C.Own b → ∃ id ∈ l, ∃ blk, X.hp[id]? = some blk ∧ blk.live = true ∧ X.ρ id = some b := fun b ⟨i, blk, h1, h2, h3⟩ => by
        have hi : i < l.length := by
          have := (List.getElem?_eq_some_iff.1 h1).1
          rw [chp, List.length_map] at this; exact this
        obtain ⟨c, g1, g2, g3, g4⟩ := lX i _ (List.getElem?_eq_getElem hi)
        rw [g3] at h1; cases h1
        rw [g4] at h3
        exact ⟨_, List.getElem_mem hi, c, g1, by rw [BlkEvo.ren] at h2; exact h2, h3⟩
      -- what is behind it
      have fin : ∀ (u : Value) (w' : World), (∃ Y : Cx, Y.w = w' ∧ Y.hp = hp ∧ RS Y r u ∧ Ok Y ∧ WEvo C Y ∧ PEvo l.length C Y) → Kc (a.put o.dst u) w' := by
        rintro u w' ⟨Y, rfl, rfl, hru, okY, W, V⟩
        generalize hsl : (r.hasSl || Y.hp.any Blk.hasSl) = sl at h hun hk
        let L : List (Nat × Blk) := (bif sl then pid.map fun id => (id, Blk.gone) else []) ++ Y.hp.zipIdx.map fun q => (backN l fresh q.2, q.1.ren fun i => some (backN l fresh i))
        let Z : Cx := ⟨fun id => if fresh ≤ id ∧ id < fresh + (Y.hp.length - l.length) then Y.ρ (l.length + (id - fresh)) else X.ρ id, asg X.hp L, fun b => if sl = true then Y.F b else X.F b, Y.w⟩
        -- what was handed over
        have given : ∀ i id, l[i]? = some id → ∃ c b', X.hp[id]? = some c ∧ c ≠ .free ∧ Y.hp[i]? = some b' ∧ BlkEvo (c.ren (pos l)) b' ∧ Y.ρ i = X.ρ id := fun i id hi => by
          obtain ⟨c, g1, g2, g3, g4⟩ := lX i id hi
          have hlt := (List.getElem?_eq_some_iff.1 hi).1
          obtain ⟨b', h1, h2⟩ := V.hp i _ hlt g3 (ren_free g2)
          exact ⟨c, b', g1, g2, h1, h2, by rw [V.ρ i _ hlt g3 (ren_free g2), g4]⟩
        -- the new numbers
        have newUn : ∀ i, l.length ≤ i → i < Y.hp.length → X.unused (backN l fresh i) := fun i hge hi => by
          refine hun (backN l fresh i, (Y.hp[i]).ren fun i => some (backN l fresh i)) (List.mem_append.2 (.inr ?_)) (by rw [gn i hge]; exact Nat.le_add_right _ _)
          simp only [List.mem_map]
          exact ⟨(Y.hp[i], i), by rw [List.mem_zipIdx_iff_getElem?]; simp [hi], rfl⟩
        have goneIn : ∀ q ∈ L, (sl = true ∧ q.1 ∈ pid ∧ q.2 = .gone) ∨ ∃ i b, Y.hp[i]? = some b ∧ q = (backN l fresh i, b.ren fun i => some (backN l fresh i)) := fun q hq => by
          rcases List.mem_append.1 hq with hq | hq
          · cases hs : sl with
            | false => rw [hs] at hq; simp at hq
            | true =>
              rw [hs] at hq
              simp only [cond_true, List.mem_map] at hq
              obtain ⟨id, hid, rfl⟩ := hq
              exact .inl ⟨rfl, hid, rfl⟩
          · simp only [List.mem_map] at hq
            obtain ⟨p, hp, rfl⟩ := hq
            rw [List.mem_zipIdx_iff_getElem?] at hp
            exact .inr ⟨p.2, p.1, hp, rfl⟩
        have idsX : ∀ id ∈ pid, ∃ c, X.hp[id]? = some c ∧ c.live = true := fun id hid => by
          obtain ⟨c, hc, hl⟩ := hsub id hid
          exact ⟨c, at_.sub _ _ hc, hl⟩
        have notPid : ∀ i, i < Y.hp.length → backN l fresh i ∉ pid := fun i hi hid => by
          rcases Nat.lt_or_ge i l.length with hlt | hge
          · rw [gl i _ (List.getElem?_eq_getElem hlt)] at hid
            exact hdis _ hid (List.getElem_mem hlt)
          · obtain ⟨c, hc, hl⟩ := idsX _ hid
            exact (newUn i hge hi).ne hc (live_not_free hl) rfl
        have ginj : ∀ i j, i < Y.hp.length → j < Y.hp.length → backN l fresh i = backN l fresh j → i = j := fun i j hi hj e => by
          rcases Nat.lt_or_ge i l.length with h1 | h1 <;> rcases Nat.lt_or_ge j l.length with h2 | h2
          · rw [gl i _ (List.getElem?_eq_getElem h1), gl j _ (List.getElem?_eq_getElem h2)] at e
            have k1 := pos_of hnd (List.getElem?_eq_getElem h1)
            have k2 := pos_of hnd (List.getElem?_eq_getElem h2)
            rw [e, k2] at k1
            exact (Option.some.inj k1).symm
          · obtain ⟨c, _, g1, g2, _⟩ := given i _ (List.getElem?_eq_getElem h1)
            rw [gl i _ (List.getElem?_eq_getElem h1)] at e
            exact absurd e ((newUn j h2 hj).ne g1 g2)
          · obtain ⟨c, _, g1, g2, _⟩ := given j _ (List.getElem?_eq_getElem h2)
            rw [gl j _ (List.getElem?_eq_getElem h2)] at e
            exact absurd e.symm ((newUn i h1 hi).ne g1 g2)
          · rw [gn i h1, gn j h2] at e; omega
        have getNew : ∀ i b, Y.hp[i]? = some b → (asg X.hp L)[backN l fresh i]? = some (b.ren fun i => some (backN l fresh i)) := fun i b hb => by
          have hi := (List.getElem?_eq_some_iff.1 hb).1
          refine asg_in L _ _ _ (fun q hq hqi => ?_) ⟨(backN l fresh i, b.ren fun i => some (backN l fresh i)), List.mem_append.2 (.inr ?_), rfl⟩
          · rcases goneIn q hq with ⟨_, hid, _⟩ | ⟨i', b', hb', rfl⟩
            · exact absurd (hqi ▸ hid) (notPid i hi)
            · have : i' = i := ginj i' i (List.getElem?_eq_some_iff.1 hb').1 hi hqi
              subst this; rw [hb] at hb'; cases hb'; rfl
          · simp only [List.mem_map]
            exact ⟨(b, i), by rw [List.mem_zipIdx_iff_getElem?]; exact hb, rfl⟩
        have getGone : ∀ id ∈ pid, sl = true → (asg X.hp L)[id]? = some .gone := fun id hid hs => by
          refine asg_in L _ _ _ (fun q hq hqi => ?_) ⟨(id, .gone), List.mem_append.2 (.inl ?_), rfl⟩
          · rcases goneIn q hq with ⟨_, _, h⟩ | ⟨i', b', hb', rfl⟩
            · exact h
            · simp only at hqi
              rw [← hqi] at hid
              exact absurd hid (notPid i' (List.getElem?_eq_some_iff.1 hb').1)
          · rw [hs]; simp only [cond_true, List.mem_map]; exact ⟨id, hid, rfl⟩
        have getOld : ∀ id b, X.hp[id]? = some b → b ≠ .free → (sl = true → id ∉ pid) → id ∉ l → (asg X.hp L)[id]? = some b := fun id b hb hn hs hnl => by
          refine asg_out L _ _ _ (fun q hq hqi => ?_) hb
          rcases goneIn q hq with ⟨h1, h2, _⟩ | ⟨i', b', hb', rfl⟩
          · exact hs h1 (hqi ▸ h2)
          · rcases Nat.lt_or_ge i' l.length with h1 | h1
            · simp only at hqi
              rw [gl i' _ (List.getElem?_eq_getElem h1)] at hqi
              exact hnl (hqi ▸ List.getElem_mem h1)
            · exact (newUn i' h1 (List.getElem?_eq_some_iff.1 hb').1).ne hb hn hqi.symm
        have notNew : ∀ id b, X.hp[id]? = some b → b ≠ .free → ¬ (fresh ≤ id ∧ id < fresh + (Y.hp.length - l.length)) := fun id b hb hn hh => by
          have h1 := newUn (l.length + (id - fresh)) (by omega) (by omega)
          rw [gn _ (by omega)] at h1
          exact h1.ne hb hn (by omega)
        have ρOld : ∀ id b, X.hp[id]? = some b → b ≠ .free → Z.ρ id = X.ρ id := fun id b hb hn => if_neg (notNew id b hb hn)
        have ρNew : ∀ i, i < Y.hp.length → Z.ρ (backN l fresh i) = Y.ρ i := fun i hi => by
          rcases Nat.lt_or_ge i l.length with h1 | h1
          · obtain ⟨c, _, g1, g2, _, _, g3⟩ := given i _ (List.getElem?_eq_getElem h1)
            rw [gl i _ (List.getElem?_eq_getElem h1), ρOld _ c g1 g2, g3]
          · rw [gn i h1]
            show (if _ then _ else _) = _
            rw [if_pos ⟨Nat.le_add_right _ _, by omega⟩]
            congr 1; omega
        have cs : ∀ id c, (asg X.hp L)[id]? = some c → c.live = true → (∃ i b, Y.hp[i]? = some b ∧ b.live = true ∧ id = backN l fresh i ∧ c = b.ren fun i => some (backN l fresh i)) ∨ (X.hp[id]? = some c ∧ (sl = true → id ∉ pid) ∧ id ∉ l) := fun id c hc hl => by
          by_cases hin : id ∈ l
          · obtain ⟨i, hi⟩ := List.mem_iff_getElem?.1 hin
            obtain ⟨_, b', _, _, g1, _, _⟩ := given i id hi
            have h1 := getNew i b' g1
            rw [gl i id hi] at h1
            rw [h1] at hc; cases hc
            exact .inl ⟨i, b', g1, by rw [← BlkEvo.ren]; exact hl, (gl i id hi).symm, rfl⟩
          · rcases asg_cases L _ _ _ hc with ⟨q, hq, rfl, rfl⟩ | ⟨hq, h | rfl⟩
            · rcases goneIn q hq with ⟨_, _, h⟩ | ⟨i', b', hb', rfl⟩
              · rw [h] at hl; cases hl
              · exact .inl ⟨i', b', hb', by rw [← BlkEvo.ren]; exact hl, rfl, rfl⟩
            · exact .inr ⟨h, fun hs hid => (by have := getGone id hid hs; rw [this] at hc; cases hc; cases hl), hin⟩
            · cases hl
        have csize : C.w.heap.size = X.w.heap.size := by rw [cw]
        have yown : ∀ b, b < X.w.heap.size → Y.Own b → ∃ id ∈ l, ∃ blk, X.hp[id]? = some blk ∧ blk.live = true ∧ X.ρ id = some b := fun b hlt hb => cown b (W.own b (by rw [csize]; exact hlt) hb)
        have Wk : ∀ b, b < X.w.heap.size → (∀ id ∈ l, ∀ blk, X.hp[id]? = some blk → blk.live = true → X.ρ id ≠ some b) → Y.w.heap[b]? = X.w.heap[b]? := fun b hb hn => by
          rw [W.keep b (by rw [csize]; exact hb) (fun ho => by obtain ⟨id, h1, blk, h2, h3, h4⟩ := cown b ho; exact hn id h1 blk h2 h3 h4), cw]
        have zown : ∀ b, Z.Own b → (∃ i blk, Y.hp[i]? = some blk ∧ blk.live = true ∧ Y.ρ i = some b) ∨ ∃ id blk, X.hp[id]? = some blk ∧ blk.live = true ∧ X.ρ id = some b ∧ (sl = true → id ∉ pid) ∧ id ∉ l := fun b ⟨id, blk, h1, h2, h3⟩ => by
          rcases cs id blk h1 h2 with ⟨i, b', g1, g2, rfl, rfl⟩ | ⟨g1, g2⟩
          · rw [ρNew i (List.getElem?_eq_some_iff.1 g1).1] at h3
            exact .inl ⟨i, b', g1, g2, h3⟩
          · rw [ρOld id blk g1 (live_not_free h2)] at h3
            exact .inr ⟨id, blk, g1, h2, h3, g2⟩
        have WZ : WEvo X Z := by
          refine ⟨by rw [← cw]; exact W.os, by rw [← cw]; exact W.tape, by rw [← cw]; exact W.output, by rw [← cw]; exact W.size, by rw [← cw]; exact W.shape, fun b hb ho => Wk b hb fun id _ blk h2 h3 h4 => ho ⟨id, blk, h2, h3, h4⟩, fun b hb ho => ?_, fun b hb => ?_, fun b hb => ?_⟩
          · rcases zown b ho with ⟨i, blk, g1, g2, g3⟩ | ⟨id, blk, g1, g2, g3, _⟩
            · obtain ⟨id, _, blk', k1, k2, k3⟩ := yown b hb ⟨i, blk, g1, g2, g3⟩; exact ⟨id, blk', k1, k2, k3⟩
            · exact ⟨id, blk, g1, g2, g3⟩
          · show if sl = true then _ else _
            split
            · exact W.fmono b (by rw [cF]; exact .inl hb)
            · exact hb
          · have hb : if sl = true then Y.F b else X.F b := hb
            split at hb
            · rcases W.fnew b hb with h1 | h1 | h1
              · rw [cF] at h1
                rcases h1 with h1 | ⟨id, _, blk, h1, h2, h3⟩
                · exact .inl h1
                · exact .inr (.inl ⟨id, blk, h1, h2, h3⟩)
              · obtain ⟨id, _, blk, k1, k2, k3⟩ := cown b h1; exact .inr (.inl ⟨id, blk, k1, k2, k3⟩)
              · exact .inr (.inr (by rw [← csize]; exact h1))
            · exact .inl hb
        have HZ : HEvo X Z := by
          refine ⟨fun id b hb hn => ?_, fun id b hb hn => ρOld id b hb hn⟩
          by_cases hin : id ∈ l
          · obtain ⟨i, hi⟩ := List.mem_iff_getElem?.1 hin
            obtain ⟨c, b', k1, _, g1, g2, _⟩ := given i id hi
            rw [hb] at k1; cases k1
            have h1 := getNew i b' g1
            rw [gl i id hi] at h1
            exact ⟨_, h1, g2.unren⟩
          · by_cases hg : sl = true ∧ id ∈ pid
            · exact ⟨.gone, getGone id hg.2 hg.1, .gone _⟩
            · exact ⟨b, getOld id b hb hn (fun h1 h2 => hg ⟨h1, h2⟩) hin, .refl hn⟩
        have EM : Emb Y Z (fun i => some (backN l fresh i)) sl := by
          refine ⟨fun id i b hf hb => ?_, fun id i b hf hb => ?_, rfl, fun hs b hb => ?_⟩
          · simp only [Option.some.injEq] at hf; subst hf; exact getNew id b hb
          · simp only [Option.some.injEq] at hf; subst hf; exact ρNew id (List.getElem?_eq_some_iff.1 hb).1
          · show if sl = true then _ else _
            rw [if_pos hs]; exact hb
        refine hk Z u rfl (RS.emb EM (fun h => by rw [← hsl, h]; rfl) hru) ⟨fun id b hb => ?_, fun id id' b c c' h1 h2 h3 h4 h5 h6 => ?_, fun b hb => ?_⟩ WZ HZ
        · by_cases hl : b.live = true
          · rcases cs id b hb hl with ⟨i, b', g1, g2, rfl, rfl⟩ | ⟨g1, g2, g3⟩
            · refine RB.emb EM rfl g1 (fun h => ?_) (okY.blk i b' g1)
              rw [← hsl, Bool.or_eq_true]; right
              rw [List.any_eq_true]; exact ⟨b', List.mem_of_getElem? g1, h⟩
            · exact (at_.ok.blk id b g1).evo WZ HZ at_.ok.fo (ρOld id b g1 (live_not_free hl)) fun _ n hn => Wk n (at_.ok.lt ⟨id, b, g1, hl, hn⟩) fun id' hid' blk' k1 k2 k3 => g3 (at_.ok.inj id id' n b blk' g1 hl k1 k2 hn k3 ▸ hid')
          · cases b <;> first | trivial | (simp [Blk.live] at hl)
        · rcases cs id c h1 h2 with ⟨i, b1, g1, g2, rfl, rfl⟩ | ⟨g1, _, g3⟩
          · rw [ρNew i (List.getElem?_eq_some_iff.1 g1).1] at h5
            rcases cs id' c' h3 h4 with ⟨i', b2, k1, k2, rfl, rfl⟩ | ⟨k1, _, k3⟩
            · rw [ρNew i' (List.getElem?_eq_some_iff.1 k1).1] at h6
              rw [okY.inj i i' b b1 b2 g1 g2 k1 k2 h5 h6]
            · rw [ρOld id' c' k1 (live_not_free h4)] at h6
              obtain ⟨id2, m1, blk2, m2, m3, m4⟩ := yown b (at_.ok.lt ⟨id', c', k1, h4, h6⟩) ⟨i, b1, g1, g2, h5⟩
              exact absurd (at_.ok.inj id' id2 b c' blk2 k1 h4 m2 m3 h6 m4 ▸ m1) k3
          · rw [ρOld id c g1 (live_not_free h2)] at h5
            rcases cs id' c' h3 h4 with ⟨i', b2, k1, k2, rfl, rfl⟩ | ⟨k1, _⟩
            · rw [ρNew i' (List.getElem?_eq_some_iff.1 k1).1] at h6
              obtain ⟨id2, m1, blk2, m2, m3, m4⟩ := yown b (at_.ok.lt ⟨id, c, g1, h2, h5⟩) ⟨i', b2, k1, k2, h6⟩
              exact absurd (at_.ok.inj id id2 b c blk2 g1 h2 m2 m3 h5 m4 ▸ m1) g3
            · rw [ρOld id' c' k1 (live_not_free h4)] at h6
              exact at_.ok.inj id id' b c c' g1 h2 k1 h4 h5 h6
        · have hb : if sl = true then Y.F b else X.F b := hb
          split at hb
          · rename_i hs
            refine ⟨(okY.fo b hb).1, fun ho => ?_⟩
            rcases zown b ho with ⟨i, blk, g1, g2, g3⟩ | ⟨id, blk, g1, g2, g3, g4, g5⟩
            · exact (okY.fo b hb).2 ⟨i, blk, g1, g2, g3⟩
            · rcases W.fnew b hb with h1 | h1 | h1
              · rw [cF] at h1
                rcases h1 with h1 | ⟨id', hid, blk', h1, h2, h3⟩
                · exact (at_.ok.fo b h1).2 ⟨id, blk, g1, g2, g3⟩
                · exact g4 hs (at_.ok.inj id id' b blk blk' g1 g2 h1 h2 g3 h3 ▸ hid)
              · obtain ⟨id', k0, blk', k1, k2, k3⟩ := cown b h1
                exact g5 (at_.ok.inj id id' b blk blk' g1 g2 k1 k2 g3 k3 ▸ k0)
              · rw [csize] at h1
                have := at_.ok.lt ⟨id, blk, g1, g2, g3⟩
                omega
          · have hlt := (at_.ok.fo b hb).1
            refine ⟨Nat.lt_of_lt_of_le hlt (by rw [← csize]; exact W.size), fun ho => ?_⟩
            rcases zown b ho with ⟨i, blk, g1, g2, g3⟩ | ⟨id, blk, g1, g2, g3, g4⟩
            · obtain ⟨id, _, blk', k1, k2, k3⟩ := yown b hlt ⟨i, blk, g1, g2, g3⟩
              exact (at_.ok.fo b hb).2 ⟨id, blk', k1, k2, k3⟩
            · exact (at_.ok.fo b hb).2 ⟨id, blk, g1, g2, g3⟩
      obtain ⟨nx, w1, hrun, hcase⟩ := hap
      have hexec : (execOp a.eval o).run P X.w = .ok nx w1 := by
        simp only [execOp, ho, resolve, hc, Act.eval, Deferred.ofValue, Sem.run_bind, Sem.run_pure, Result.andThen_ok, invoke, Array.append_empty, Array.empty_append]
        exact hrun
      unfold Oper.wp
      rw [hexec]
      rcases hcase with ⟨u, rfl, hu⟩ | ⟨rfl, hcalls⟩
      · exact fin u w1 hu
      · exact hcalls.mono fun e w' ⟨u, he, hu⟩ => by subst he; exact fin u w' hu

end
end Go.Ev
end

section
/-
  EVERY OPERATION; REGIONS IN TEXT ORDER.
-/
namespace Go.Ev
variable {A : Type}

section
variable {P : Program} {E : Env A} (T : TyOK P E) (fns : FnsOK P E) {o : Oper} {ev : Operand → AV} {sub : List (Nat × Blk)} {fresh : Nat} {k : Cont A} {out : A}
include T fns

theorem opK_sound (hev : ∀ g, ev (.global g) = glv E.gl g) (h : opK E o ev sub fresh k = some out) : ∃ v l, k v l = some out ∧ OpSem P o ev sub fresh v l := by
  unfold opK at h
  split at h
  · rename_i x ho; exact move_sound T (.inl ho) h
  · rename_i x ho; exact move_sound T (.inr ho) h
  · rename_i c a b ho; exact pick_sound ho h
  · rename_i t ho; exact alloc_sound T ho h
  · rename_i t x ho; exact box_sound ho h
  · rename_i t ps ho; exact build_sound T ho h
  · rename_i t n ps ho; exact buildSlice_sound T ho h
  · rename_i t a ho; exact load_op_sound T ho h
  · rename_i t a x ho; exact store_sound T (y := fun i => nilAs (some i.K) x (ev x)) ho (fun _ _ _ => nilAs_RS) h
  · rename_i x ho; exact nilCheck_sound ho h
  · rename_i op t x y yt ho; exact binS_sound T ho h
  · rename_i op t x ho; exact un_sound ho h
  · rename_i s d x ho; exact convert_sound T ho h
  · rename_i t l c ho; exact makeSlice_sound T ho h
  · rename_i t r ho; exact makeMap_sound T h ho
  · rename_i t x lo hi ho; exact slice_sound T ho h
  · rename_i t x f ho; exact fieldAddr_sound T ho h
  · rename_i t x f ho; exact field_sound T ho h
  · rename_i t x ix ho; exact indexAddr_sound T ho h
  · rename_i t x ix ho; exact index_sound T ho h
  · rename_i t m x ok ho; exact lookup_sound T ho h
  · rename_i t m x y ho; exact mapUpdate_sound T (.inl ho) h
  · rename_i t m x y ho; exact mapUpdate_sound T (.inr ho) h
  · rename_i t m x ho; obtain ⟨v, l, h1, h2, _⟩ := mapEntry_sound T ho h; exact ⟨v, l, h1, h2⟩
  · rename_i t m s x ho; exact entryStore_sound ho h
  · rename_i x i ho; exact extract_sound ho h
  · rename_i c ho
    split at h
    · rename_i f hc
      split at h
      · rename_i hsz; exact call_sound fns hev ho hc hsz h
      · cases h
    · rename_i hc
      split at h
      · rename_i x t ts ha ht; exact len_sound T ho hc ha ht h
      · cases h
    · rename_i hc
      split at h
      · rename_i s x t t' ha ht
        split at h
        · rename_i htt; subst htt
          exact append_sound T ho hc ha ht rfl h
        · cases h
      · cases h
    · rename_i hc
      split at h
      · rename_i d x t t' ha ht
        exact copy_sound T ho hc ha ht h
      · cases h
    · rename_i hc
      split at h
      · rename_i m x t ts ha ht; exact delete_sound T ho hc ha ht h
      · cases h
    · rename_i hc
      split at h
      · rename_i m t ts ha ht; exact clear_sound T ho hc ha ht h
      · cases h
    · rename_i hc
      split at h
      · rename_i x r ha
        exact minmax_sound ho hc ha (.inl ⟨rfl, rfl⟩) h
      · cases h
    · rename_i hc
      split at h
      · rename_i x r ha
        exact minmax_sound ho hc ha (.inr ⟨rfl, rfl⟩) h
      · cases h
    · cases h
  · cases h

theorem opK_extra (hev : ∀ g, ev (.global g) = glv E.gl g) (h : opK E o ev sub fresh k = some out) : ∃ v l, k v l = some out ∧ OpSem P o ev sub fresh v l ∧ Extra P o ev sub fresh v l := by
  have plain : (∀ t m x, o.op ≠ .lookup t m x false) → (∀ t m x, o.op ≠ .mapEntry t m x) → ∃ v l, k v l = some out ∧ OpSem P o ev sub fresh v l ∧ Extra P o ev sub fresh v l := fun h1 h2 => by
    obtain ⟨v, l, g1, g2⟩ := opK_sound T fns hev h
    exact ⟨v, l, g1, g2, fun t m x e => absurd e (h1 t m x), fun t m x e => absurd e (h2 t m x)⟩
  cases ho : o.op with
  | lookup t m x ok =>
    cases ok with
    | true => exact plain (fun _ _ _ e => by rw [ho] at e; cases e) (fun _ _ _ e => by rw [ho] at e; cases e)
    | false =>
      unfold opK at h
      rw [ho] at h
      exact lookup_extra T ho h
  | mapEntry t m x =>
    unfold opK at h
    rw [ho] at h
    exact mapEntry_sound T ho h
  | _ => exact plain (fun _ _ _ e => by rw [ho] at e; cases e) (fun _ _ _ e => by rw [ho] at e; cases e)
end

-- ------------------------------------------------------------ a region's operations, one behind the other

/-- An operation, in the state in which it is come to; 'on': its guard lets it. -/
structure Stp where
  o : Oper
  on : Bool
  s : St
  v : AV
  l : List (Nat × Blk)

def Stp.next (p : Stp) : St := if p.on then { (p.s.put p.o.dst p.v) with hp := asg p.s.hp p.l } else p.s.put p.o.dst (.tup [])
def Stp.fp (p : Stp) : FP := if p.on then ⟨(p.s.sub p.o).map (·.1), p.l.map (·.1)⟩ else ⟨[], []⟩

def GuardOK (ops : Array Oper) (o : Oper) (s : St) (on : Bool) : Prop :=
  match o.guard with
  | none => on = true
  | some (j, want) => ∃ g, (ops[j]?).bind (·.dst) = some g ∧ ((∃ b, s.tm[g]? = some (.p .bool b) ∧ on = decide (b = want)) ∨ (s.tm[g]? = some (.tup []) ∧ on = false))

inductive Chain (P : Program) (gl : GL) (ops : Array Oper) : List Oper → St → List Stp → St → Prop where
  | nil (s : St) : Chain P gl ops [] s [] s
  | cons {o : Oper} {r : List Oper} {s s' : St} {p : Stp} {ps : List Stp} (h1 : p.o = o) (h2 : p.s = s) (h3 : GuardOK ops o s p.on)
      (h4 : p.on = true → OpSem P o (St.ev gl s) (s.sub o) s.hp.length p.v p.l ∧ Extra P o (St.ev gl s) (s.sub o) s.hp.length p.v p.l) (h5 : Chain P gl ops r p.next ps s') : Chain P gl ops (o :: r) s (p :: ps) s'

theorem chain_m {P : Program} {gl : GL} {ops : Array Oper} : ∀ {os : List Oper} {s s' : St} {ps : List Stp}, Chain P gl ops os s ps s' → s'.m = s.m
  | _, _, _, _, .nil s => rfl
  | _, _, _, _, @Chain.cons _ _ _ o r s s' p ps h1 h2 h3 h4 h5 => by
    subst h1; subst h2
    rw [chain_m h5]
    unfold Stp.next
    have e : ∀ v, (p.s.put p.o.dst v).m = p.s.m := fun v => by cases p.o.dst <;> rfl
    split <;> exact e _

theorem St.put_same {s : St} {g : Nat} {v : AV} (h : s.tm[g]? = some v) : s.put (some g) v = s := by
  obtain ⟨hl, hv⟩ := List.getElem?_eq_some_iff.1 h
  simp only [St.put]
  rw [← hv, List.set_getElem_self]

section
variable {P : Program} {E : Env A} (T : TyOK P E) (fns : FnsOK P E) {out : A}
include T fns

theorem opsK_sound {ops : Array Oper} : ∀ {os : List Oper} {s : St} {fps : List FP} {k : St → List FP → Option A}, opsK E ops os s fps k = some out →
    ∃ ps s', Chain P E.gl ops os s ps s' ∧ k s' ((ps.map Stp.fp).reverse ++ fps) = some out
  | [], s, fps, k, h => ⟨[], s, .nil s, by simpa [opsK] using h⟩
  | o :: r, s, fps, k, h => by
    simp only [opsK] at h
    have step : ∀ {on : Bool} (s : St), GuardOK ops o s true → execK E o s fps (fun s' fps' => opsK E ops r s' fps' k) = some out →
        ∃ ps s', Chain P E.gl ops (o :: r) s ps s' ∧ k s' ((ps.map Stp.fp).reverse ++ fps) = some out := fun {on} s hg h => by
      unfold execK at h
      obtain ⟨v, l, h, hs⟩ := opK_extra T fns (fun g => rfl) h
      obtain ⟨ps, s', hc, hk⟩ := opsK_sound h
      refine ⟨⟨o, true, s, v, l⟩ :: ps, s', .cons rfl rfl hg (fun _ => hs) hc, ?_⟩
      simpa [Stp.fp] using hk
    have skip : ∀ (s : St), GuardOK ops o s false → opsK E ops r (s.put o.dst (.tup [])) (⟨[], []⟩ :: fps) k = some out →
        ∃ ps s', Chain P E.gl ops (o :: r) s ps s' ∧ k s' ((ps.map Stp.fp).reverse ++ fps) = some out := fun s hg h => by
      obtain ⟨ps, s', hc, hk⟩ := opsK_sound h
      refine ⟨⟨o, false, s, .any, []⟩ :: ps, s', .cons rfl rfl hg (fun h => nomatch h) hc, ?_⟩
      simpa [Stp.fp] using hk
    split at h
    · rename_i hg
      exact step (on := true) s (by simp [GuardOK, hg]) h
    · rename_i j want hg
      split at h
      · cases h
      · rename_i g hgd
        split at h
        · rename_i b hb
          have key : (if b = want then execK E o (s.put (some g) (.p .bool b)) fps (fun s' fps' => opsK E ops r s' fps' k) else opsK E ops r ((s.put (some g) (.p .bool b)).put o.dst (.tup [])) (⟨[], []⟩ :: fps) k) = some out := by
            cases b <;> simpa using h
          rw [St.put_same hb] at key
          split at key
          · rename_i hbw
            exact step (on := true) s (by simp only [GuardOK, hg]; exact ⟨g, hgd, .inl ⟨b, hb, by simp [hbw]⟩⟩) key
          · rename_i hbw
            exact skip s (by simp only [GuardOK, hg]; exact ⟨g, hgd, .inl ⟨b, hb, by simp [hbw]⟩⟩) key
        · rename_i hb
          exact skip s (by simp only [GuardOK, hg]; exact ⟨g, hgd, .inr ⟨hb, trivial⟩⟩) h
        · cases h
end

-- ------------------------------------------------------------ in text order

theorem lookup_filterMap {hp : List Blk} : ∀ {l : List Nat} {id : Nat} {b : Blk}, (l.filterMap fun id => match hp[id]? with | some Blk.free => none | some b => some (id, b) | none => none).lookup id = some b → hp[id]? = some b ∧ b ≠ .free
  | [], _, _, h => by simp at h
  | i :: l, id, b, h => by
    rw [List.filterMap_cons] at h
    cases hi : hp[i]? with
    | none => rw [hi] at h; exact lookup_filterMap h
    | some c =>
      rw [hi] at h
      by_cases hc : c = .free
      · subst hc; exact lookup_filterMap h
      · have h : (((i, c) :: l.filterMap fun id => match hp[id]? with | some Blk.free => none | some b => some (id, b) | none => none) : List (Nat × Blk)).lookup id = some b := by
          cases c <;> first | exact h | exact absurd rfl hc
        simp only [List.lookup_cons] at h
        by_cases he : id = i
        · subst he; simp at h; rw [← h]; exact ⟨hi, hc⟩
        · rw [show (id == i) = false by simpa using he] at h; exact lookup_filterMap h

theorem St.sub_get {s : St} {o : Oper} {id : Nat} {b : Blk} (h : (s.sub o).lookup id = some b) : s.hp[id]? = some b := (lookup_filterMap h).1
theorem St.sub_free {s : St} {o : Oper} {id : Nat} {b : Blk} (h : (s.sub o).lookup id = some b) : b ≠ .free := (lookup_filterMap h).2

theorem Rel.put {gl : GL} {X : Cx} {s : St} {a : Act} (h : Rel gl X s a) {d : Option Tmp} {v : AV} {u : Value} (hr : RS X v u) : Rel gl X (s.put d v) (a.put d u) := by
  cases d with
  | none => exact h
  | some d =>
    refine ⟨h.glo, h.defers, by simp [St.put, Act.put, h.size], fun i av hi => ?_, h.hp, h.ok⟩
    simp only [St.put, Act.put] at hi ⊢
    by_cases hd : d = i
    · subst hd
      rw [List.getElem?_set] at hi
      simp only [if_true] at hi
      split at hi
      · rename_i hl
        cases hi
        refine ⟨u, ?_, hr⟩
        rw [Array.getElem?_setIfInBounds_self_of_lt (by rw [h.size]; exact hl)]
      · cases hi
    · rw [List.getElem?_set_ne hd] at hi
      rw [Array.getElem?_setIfInBounds_ne hd]
      exact h.tm i av hi

theorem Rel.step {gl : GL} {X Y : Cx} {s : St} {a : Act} {l : List (Nat × Blk)} (h : Rel gl X s a) (hp : Y.hp = asg X.hp l) (ok : Ok Y) (W : WEvo X Y) (H : HEvo X Y) : Rel gl Y { s with hp := asg s.hp l } a :=
  ⟨h.glo.evo W h.ok.fo, h.defers, h.size, fun i av hi => by obtain ⟨v, h1, h2⟩ := h.tm i av hi; exact ⟨v, h1, h2.evo W H h.ok.fo⟩, by rw [hp, h.hp], ok⟩

theorem RS.undef {X : Cx} : RS X (.tup []) undef := ⟨#[], rfl, .nil⟩

theorem GuardOK.wanted {gl : GL} {X : Cx} {ops : Array Oper} {o : Oper} {s : St} {on : Bool} {a : Act} (h : GuardOK ops o s on) (hr : Rel gl X s a) : Region.wanted o (yielded ops a.tmps) = on := by
  unfold GuardOK at h
  unfold Region.wanted
  cases hg : o.guard with
  | none => rw [hg] at h; exact h.symm
  | some q =>
    obtain ⟨j, want⟩ := q
    rw [hg] at h
    obtain ⟨g, h1, ⟨b, h2, h3⟩ | ⟨h2, h3⟩⟩ := h
    · obtain ⟨v, h4, h5⟩ := hr.tm g _ h2
      rw [RS.bool] at h5
      subst h5
      simp only [yielded, h1, Option.bind_some, h4, h3]
      cases b <;> cases want <;> rfl
    · obtain ⟨v, h4, us, h5, h6⟩ := hr.tm g _ h2
      subst h5
      simp only [yielded, h1, Option.bind_some, h4, h3]
      rfl

theorem chain_text {P : Program} {gl : GL} {ops : Array Oper} {Q : Exit → Act → World → Prop} : ∀ {os : List Oper} {s s' : St} {ps : List Stp}, Chain P gl ops os s ps s' → ∀ {i : Nat}, ops.toList.drop i = os → ∀ {X : Cx} {a : Act}, Rel gl X s a →
    (∀ (Y : Cx) (a' : Act), Rel gl Y s' a' → WEvo X Y → HEvo X Y → Q .normal a' Y.w) → wpOps P ops Q (List.range' i os.length) a X.w
  | _, _, _, _, .nil s, i, _, X, a, hr, hq => hq X a hr (.refl X) (.refl X)
  | _, _, _, _, @Chain.cons _ _ _ o r s s' p ps h1 h2 h3 h4 h5, i, hd, X, a, hr, hq => by
    subst h1; subst h2
    have hi : ops[i]? = some p.o := by
      have := congrArg (·[0]?) hd
      simpa using this
    have hd' : ops.toList.drop (i + 1) = r := by
      have := congrArg (List.drop 1) hd
      simpa [Nat.add_comm] using this
    rw [List.length_cons, List.range'_succ]
    simp only [wpOps, hi]
    rw [h3.wanted hr]
    cases hon : p.on with
    | false =>
      simp only [Bool.false_eq_true, if_false]
      have hn : p.next = p.s.put p.o.dst (.tup []) := by simp [Stp.next, hon]
      rw [hn] at h5
      exact chain_text h5 hd' (hr.put RS.undef) hq
    | true =>
      simp only [if_true]
      left
      refine (h4 hon).1.2 X a _ Q ⟨fun x _ => hr.ev x, hr.ok, hr.glo, fun id b hb => by rw [hr.hp]; exact St.sub_get hb⟩ (fun q _ hq => .inl ?_) fun Y u hp hu ok W H => ?_
      · rw [hr.hp]; exact List.getElem?_eq_none hq
      · have hn : p.next = { (p.s.put p.o.dst p.v) with hp := asg p.s.hp p.l } := by simp [Stp.next, hon]
        rw [hn] at h5
        have h6 := (hr.step hp ok W H).put (d := p.o.dst) hu
        refine chain_text h5 hd' (X := Y) (a := a.put p.o.dst u) ?_ fun Z a' hz WZ HZ => hq Z a' hz (W.trans WZ) (H.trans HZ)
        cases hdst : p.o.dst <;> rw [hdst] at h6 <;> exact h6

end Go.Ev
end

