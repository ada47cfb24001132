/-
  THE EVALUATOR's OPERATIONS ARE THE MODEL's, MORE: slices as lists; append.
-/
import Derived.Test.YtonpbpkkepacpaaFvM
set_option linter.all false
namespace Go.Ev
variable {A : Type}

/-- What a slice's elements are, and where they lie. -/
structure Elems (X : Cx) (ids : List Nat) (K : Kind) (ys : List K.den) (u : Value) : Prop where
  get : ∃ ao c, u = .slice ao ys.length c ∧ ys.length ≤ c ∧ (0 < ys.length → ∃ ad css, ao = some ad ∧ (X.F ad.block ∨ ∃ id ∈ ids, X.ρ id = some ad.block ∧ ∃ b, X.hp[id]? = some b ∧ b.live = true) ∧
    All2 (RP X.F X.w K) ys css ∧ ∀ j u', css.flatten[j]? = some u' → X.w.cell? (ad.add j) = some u')

theorem listK_sound {out : A} {sub : List (Nat × Blk)} {v : AV} {k : (K : Kind) → List K.den → Option A} (h : listK sub v k = some out) :
    ∃ K ys, k K ys = some out ∧ ∀ (X : Cx) (u : Value), Ok X → (∀ (id : Nat) (b : Blk), sub.lookup id = some b → X.hp[id]? = some b) → RS X v u → Elems X v.ids K ys u := by
  unfold listK at h
  split at h
  · rename_i K xs
    refine ⟨K, xs, h, fun X u ok hs hr => ⟨?_⟩⟩
    obtain ⟨ao, cap, h1, h2, h3⟩ := sl_elem hr
    refine ⟨ao, cap, h1, h2, fun hp => ?_⟩
    obtain ⟨ad, css, h4, h5, h6, h7⟩ := h3 hp
    exact ⟨ad, css, h4, .inl h5, h6, h7⟩
  · rename_i id
    obtain ⟨B, hB, h⟩ := look_sound h
    split at h
    · rename_i t K xs
      refine ⟨K, xs, h, fun X u ok hs hr => ⟨?_⟩⟩
      have hX := hs _ _ hB
      rcases (R1_row hX).1 ((RS.one (by simp) (by simp) (by simp) (by simp)).1 hr) with ⟨_, h1, h2⟩ | ⟨b, cap, cur, h1, h2, _, _, h3⟩
      · exact ⟨none, 0, by rw [h2, h1], by omega, fun hp => by omega⟩
      · refine ⟨_, cap, h2, h3, fun hp => ?_⟩
        obtain ⟨cur', cap', css, _, _, _, _, h4, _, h5⟩ := row_cells (ok.blk _ _ hX) h1
        exact ⟨_, css, rfl, .inr ⟨id, by simp [AV.ids], h1, _, hX, rfl⟩, h4, h5⟩
    · cases h
  · rename_i id lo len
    obtain ⟨B, hB, h⟩ := look_sound h
    split at h
    · rename_i t K xs
      refine ⟨K, _, h, fun X u ok hs hr => ⟨?_⟩⟩
      have hX := hs _ _ hB
      obtain ⟨h1, ao, c, h2, h3, h4⟩ := (R1_sub hX).1 ((RS.one (by simp) (by simp) (by simp) (by simp)).1 hr)
      have hl : ((xs.drop lo).take len).length = len := by simp; omega
      refine ⟨ao, c, by rw [hl]; exact h2, by omega, fun hp => ?_⟩
      rw [hl] at hp
      obtain ⟨b, h5, rfl⟩ := h4 hp
      obtain ⟨cur', cap', css, _, _, _, _, h6, _, h7⟩ := row_cells (ok.blk _ _ hX) h5
      refine ⟨_, (css.drop lo).take len, rfl, .inr ⟨id, by simp [AV.ids], h5, _, hX, rfl⟩, (h6.drop lo).take len, fun j u' hj => ?_⟩
      have := h7 _ _ (part_get h6.lens hj)
      rw [add_lit, Nat.zero_add] at this
      rw [add_lit]
      exact this
    · cases h
  · rename_i id path lo len
    obtain ⟨B, hB, h⟩ := look_sound h
    split at h
    · rename_i t K av
      obtain ⟨y, h, hs'⟩ := getV_sound h
      split at h
      · rename_i n e l
        refine ⟨e, _, h, fun X u ok hs hr => ⟨?_⟩⟩
        have hX := hs _ _ hB
        obtain ⟨b, off, n', e', h1, h2, h3, ao, c, h4, h5, h6⟩ := (R1_slc hX).1 ((RS.one (by simp) (by simp) (by simp) (by simp)).1 hr)
        obtain ⟨hfo, b', cs, h7, h8, h9⟩ := ok.blk _ _ hX
        rw [h1] at h7; cases h7
        obtain ⟨off', K', h10, h11, h12⟩ := hs' hfo h9
        rw [h2] at h10
        simp only [Option.some.injEq, Prod.mk.injEq] at h10
        obtain ⟨rfl, rfl⟩ := h10
        simp only [AV.fits, decide_eq_true_eq, Kind.arr.injEq] at h11
        obtain ⟨rfl, rfl⟩ := h11
        obtain ⟨hl, css, hcut, hr'⟩ := h12
        have hlen : ((l.drop lo).take len).length = len := by simp; omega
        refine ⟨ao, c, by rw [hlen]; exact h4, by omega, fun hp => ?_⟩
        rw [hlen] at hp
        obtain rfl := h6 hp
        refine ⟨_, (css.drop lo).take len, rfl, .inr ⟨id, by simp [AV.ids], h1, _, hX, rfl⟩, (hr'.drop lo).take len, fun j u' hj => ?_⟩
        have := part_get hr'.lens hj
        rw [← hcut] at this
        have := cut_get this
        rw [add_lit, cell_of_row _ _ _ _ _ _ h8]
        simpa [Nat.add_assoc] using this
      · cases h
    · cases h
  · cases h

section
variable {P : Program} {E : Env A} (T : TyOK P E) {o : Oper} {ev : Operand → AV} {sub : List (Nat × Blk)} {fresh : Nat} {k : Cont A} {out : A}

include T in
theorem TyOK.zeroInfo {t : TypeId} {i : TI} (h : E.ty.lookup t = some i) : ∃ inf z, P.info? t = some inf ∧ inf.zero = some z ∧ inf.size = i.K.size ∧ inf.bytes = i.bytes ∧ z.cells.size = i.K.size ∧ (∀ F w, RP F w i.K i.K.zero z.cells.toList) := by
  obtain ⟨inf, d, h1, _, h2, h3⟩ := T.info h
  have := T t i h
  unfold tyB at this
  rw [h1] at this
  split at this
  · rename_i inf' d' h4 h5
    cases h4
    simp only [Bool.and_eq_true] at this
    have hz := this.1.1.2
    split at hz
    · rename_i cs hcs
      simp only [Bool.and_eq_true] at hz
      have hr := fun F w => zeroB_RP (F := F) (w := w) hz.2
      refine ⟨inf, .agg cs, h1, hcs, h2, h3, ?_, hr⟩
      have := RP.length (hr (fun _ => False) default)
      simpa [Value.cells] using this
    · rename_i z hz1 hz2
      simp only [Bool.and_eq_true, Bool.not_eq_true'] at hz
      have e : z.cells = #[z] := by
        have := hz.1.2
        cases z <;> first | rfl | (simp [Value.oneCell'] at this)
      have hr := fun F w => zeroB_RP (F := F) (w := w) hz.2
      refine ⟨inf, z, h1, hz2, h2, h3, ?_, by rw [e]; exact hr⟩
      have := RP.length (hr (fun _ => False) default)
      rw [e]; simpa using this
    · cases hz
  · cases this

/-- Nothing appended. -/
theorem run_append_zero {t ty e : TypeId} {inf : TypeInfo} (hu : P.underlying t = some (.slice e)) (hi : P.info? e = some inf) {base ao : Option Addr} {n cap c : Nat} (hn : n ≤ cap) (w : World) :
    (Builtin.append_ #[t, t] ty #[.slice base n cap, .slice ao 0 c]).run P w = .ok (.slice base n cap) w := by
  cases ao <;> cases base <;> simp [Builtin.append_, run_underlying hu, sizeOf, typeInfo, hi, Builtin.lenOf, hn, Builtin.firstCells, loadCells, loadCellsFrom, storeCells]

include T in
theorem append_sound {t : TypeId} {ts : List TypeId} {s x : Operand} {c : Call} (ho : o.op = .call c) (hc : c.callee = .builtin .append) (ha : c.args.toList = [s, x]) (ht : c.argTypes.toList = t :: ts) (hts : ts = [t])
    (h : appendK E sub t (ev s) (ev x) fresh k = some out) : ∃ v l, k v l = some out ∧ OpSem P o ev sub fresh v l := by
  subst hts
  have ha' : c.args = #[s, x] := Array.toList_inj.1 ha
  have ht' : c.argTypes = #[t, t] := Array.toList_inj.1 ht
  have ms : s ∈ o.op.operands := by simp [Op.operands, ho, Call.operands, hc, ha']
  have mx : x ∈ o.op.operands := by simp [Op.operands, ho, Call.operands, hc, ha']
  have pre : ∀ (ac : Act) (w w' : World) (r : Value), (Builtin.append_ #[t, t] o.type #[ac.eval s, ac.eval x]).run P w = .ok r w' → (execOp ac.eval o).run P w = .ok (.value r) w' := fun ac w w' r hr => by
    simp [execOp, ho, resolve, hc, ha', ht', invoke, builtin, hr]
  unfold appendK at h
  split at h
  · rename_i id es
    obtain ⟨B, hB, h⟩ := look_sound h
    split at h
    · rename_i e K xs
      obtain ⟨ti, hti, h⟩ := ti_sound h
      split at h
      · rename_i e' hd
        split at h
        · rename_i he; subst he
          obtain ⟨tj, htj, h⟩ := ti_sound h
          obtain ⟨hu, j, hj, hK, hpos, hbpos⟩ := T.slice hti hd
          rw [htj] at hj; cases hj
          split at h
          · rename_i hKj; subst hKj
            obtain ⟨K', ys, h, hl⟩ := listK_sound h
            split at h
            · rename_i hKK; subst hKK
              split at h
              · rename_i hbytes
                obtain ⟨inf, z, hi, hz, hsz, hby, hzs, hzr⟩ := T.zeroInfo htj
                refine ⟨_, _, h, fun q hq => ?_, fun X a Kc Q at_ hun hk => ?_⟩
                · simp at hq; rcases hq with rfl | rfl
                  · exact .inr ⟨_, hB⟩
                  · exact .inl (Nat.le_refl _)
                · have hX := at_.sub _ _ hB
                  have hunf := hun (fresh, .row e' tj.K (xs ++ ys)) (by simp) (Nat.le_refl _)
                  have h1 := at_.opr s ms; rw [es] at h1
                  obtain ⟨ao, cy, hx, hcy, hel⟩ := (hl X _ at_.ok at_.sub (at_.opr x mx)).get
                  have hsrow := (R1_row hX).1 ((RS.one (by simp) (by simp) (by simp) (by simp)).1 h1)
                  have hrb := at_.ok.blk _ _ hX
                  have hlen : (xs ++ ys).length = xs.length + ys.length := List.length_append
                  have hsmall : xs.length + ys.length ≤ 140737488355328 := Nat.le_trans (Nat.le_mul_of_pos_right _ hbpos) hbytes
                  have hml : xs.length + ys.length ≤ maxLen := by simp only [maxLen]; omega
                  -- the end, for each way
                  have fin : ∀ (q : Option Nat) (w' : World) (r : Value), (Builtin.append_ #[t, t] o.type #[a.eval s, a.eval x]).run P X.w = .ok r w' → w'.os = X.w.os → w'.tape = X.w.tape → w'.output = X.w.output → X.w.heap.size ≤ w'.heap.size →
                      (∀ k, k < X.w.heap.size → X.ρ id ≠ some k → w'.heap[k]? = X.w.heap[k]?) →
                      (∀ n, X.ρ id = some n → ∀ (c : Array Value) (e : TypeId) (f : Nat × Nat), X.w.heap[n]? = some (Obj.cells c e f) → ∃ c' : Array Value, w'.heap[n]? = some (Obj.cells c' e f) ∧ c'.size = c.size) →
                      (q = X.ρ id ∨ ∀ n, q = some n → X.w.heap.size ≤ n) →
                      (∀ Y : Cx, Y = ⟨upd X.ρ fresh q, hpSet (hpSet X.hp id .gone) fresh (.row e' tj.K (xs ++ ys)), X.F, w'⟩ → WEvo X Y → HEvo X Y → RB Y fresh (.row e' tj.K (xs ++ ys)) ∧ RS Y (.row fresh) r) → o.wp P a X.w Kc Q := fun q w' r hr g1 g2 g3 g4 g5 g6 g7 g8 => by
                    obtain ⟨o1, o2, o3⟩ := move_ok at_.ok hX rfl hunf (B' := .row e' tj.K (xs ++ ys)) (q := q) (w' := w') (Y := ⟨upd X.ρ fresh q, hpSet (hpSet X.hp id .gone) fresh (.row e' tj.K (xs ++ ys)), X.F, w'⟩) rfl g1 g2 g3 g4 g5 g6 g7 fun W H => (g8 _ rfl W H).1
                    unfold Oper.wp; rw [pre a X.w w' r hr]
                    exact hk ⟨upd X.ρ fresh q, hpSet (hpSet X.hp id .gone) fresh (.row e' tj.K (xs ++ ys)), X.F, w'⟩ r rfl (g8 _ rfl o2 o3).2 o1 o2 o3
                  have hgetY : ∀ (q : Option Nat) (w' : World), (⟨upd X.ρ fresh q, hpSet (hpSet X.hp id .gone) fresh (.row e' tj.K (xs ++ ys)), X.F, w'⟩ : Cx).hp[fresh]? = some (.row e' tj.K (xs ++ ys)) := fun q w' => hpSet_same ..
                  rcases Nat.eq_zero_or_pos ys.length with hy0 | hy0
                  · -- nothing appended
                    have hys : ys = [] := List.eq_nil_of_length_eq_zero hy0
                    subst hys
                    rw [hy0] at hx
                    rcases hsrow with ⟨hρ, hx0, hs⟩ | ⟨b, cap, cur, hρ, hs, hcur, hcs, hle⟩
                    · refine fin none X.w (.slice none 0 0) ?_ rfl rfl rfl (Nat.le_refl _) (fun _ _ _ => rfl) (fun n hn => by rw [hρ] at hn; cases hn) (.inl hρ.symm) fun Y hY W H => ?_
                      · rw [hs, hx]; exact run_append_zero hu hi (Nat.le_refl _) _
                      · subst hY
                        exact ⟨.inl ⟨upd_same .., by simpa using hx0⟩, RS.row_nil (hgetY _ _) (upd_same ..) (by simpa using hx0)⟩
                    · refine fin (some b) X.w (.slice (some ⟨b, 0, none⟩) xs.length cap) ?_ rfl rfl rfl (Nat.le_refl _) (fun _ _ _ => rfl) (fun n _ c e f hc => ⟨c, hc, rfl⟩) (.inl hρ.symm) fun Y hY W H => ?_
                      · rw [hs, hx]; exact run_append_zero hu hi hle _
                      · obtain ⟨cur', cap', css, r1, r2, r3, r4, r5, r6, _⟩ := row_cells hrb hρ
                        rw [hcur] at r1; cases r1
                        have hcc : cap' = cap := Nat.eq_of_mul_eq_mul_right hpos (r2.symm.trans hcs)
                        subst hcc
                        subst hY
                        refine ⟨.inr ⟨b, cur, cap', css, upd_same .., hcur, hcs, by simpa using r3, r4, by simpa using (r5.imp fun _ _ _ _ hr => RP.evo W at_.ok.fo hr), by simpa using r6⟩, ?_⟩
                        have := RS.row_new (hgetY (some b) X.w) (upd_same ..) hcur hcs (by simpa using hle)
                        simpa using this
                  · obtain ⟨ad, cssy, rfl, _, hyr, hyc⟩ := hel hy0
                    have hnl : cssy.flatten.length = ys.length * inf.size := by rw [flatten_length hyr.lens, ← hyr.length, hsz]
                    have hn1 : ∀ u ∈ cssy.flatten, u.oneCell' = true := fun u hu => by
                      obtain ⟨c, hc, hu⟩ := List.mem_flatten.1 hu
                      obtain ⟨m, hm⟩ := List.mem_iff_getElem?.1 hc
                      obtain ⟨_, _, hr⟩ := hyr.get' hm
                      exact RP.one hr u hu
                    -- a new block
                    have grown : ∀ (cap : Nat) (cssx : List (List Value)) (xs' : Array Value), xs.length + ys.length ≤ cap → cap ≤ maxLen → All2 (RP X.F X.w tj.K) xs cssx → xs' = (cssx.flatten ++ cssy.flatten).toArray ++ Builtin.zeroCells z.cells (cap - (xs.length + ys.length)) →
                        ∀ Y : Cx, Y = ⟨upd X.ρ fresh (some X.w.heap.size), hpSet (hpSet X.hp id .gone) fresh (.row e' tj.K (xs ++ ys)), X.F, X.w.drew.alloc (.cells xs' e')⟩ → WEvo X Y → HEvo X Y →
                        RB Y fresh (.row e' tj.K (xs ++ ys)) ∧ RS Y (.row fresh) (.slice (some ⟨X.w.heap.size, 0, none⟩) (xs.length + ys.length) cap) := fun cap cssx xs' hcap hcm hxr hxs' Y hY W H => by
                      have hxl : cssx.flatten.length = xs.length * tj.K.size := by rw [flatten_length hxr.lens, ← hxr.length]
                      have hyl : cssy.flatten.length = ys.length * tj.K.size := by rw [flatten_length hyr.lens, ← hyr.length]
                      have hnew : Y.w.heap[X.w.heap.size]? = some (.cells xs' e' (0, 0)) := by subst hY; exact heap_alloc_new X.w.drew _
                      have hsize : xs'.size = cap * tj.K.size := by
                        rw [hxs']
                        simp only [Array.size_append, List.size_toArray, List.length_append, size_zeroCells, hzs, hxl, hyl, ← Nat.add_mul]
                        congr 1; omega
                      have hρY : Y.ρ fresh = some X.w.heap.size := by subst hY; exact upd_same ..
                      have hYg : Y.hp[fresh]? = some (.row e' tj.K (xs ++ ys)) := by subst hY; exact hpSet_same ..
                      refine ⟨.inr ⟨X.w.heap.size, xs', cap, cssx ++ cssy, hρY, hnew, hsize, by rw [hlen]; exact hcap, hcm, (hxr.append hyr).imp fun _ _ _ _ hr => RP.evo W at_.ok.fo hr, ?_⟩, ?_⟩
                      · rw [hxs', List.flatten_append, hlen, Nat.add_mul, ← hxl, ← hyl]
                        simp only [Array.toList_append, List.toList_toArray]
                        rw [List.take_append_of_le_length (by simp), List.take_of_length_le (by simp)]
                      · have := RS.row_new hYg hρY hnew hsize (by rw [hlen]; exact hcap)
                        rwa [hlen] at this
                    rcases hsrow with ⟨hρ, hx0, hs⟩ | ⟨b, cap, cur, hρ, hs, hcur, hcs, hle⟩
                    · -- onto nil
                      have hxs : xs = [] := List.eq_nil_of_length_eq_zero hx0
                      have hr := run_append_nil (P := P) X.w t o.type e' inf z hu hi hz ad ys.length cy cssy.flatten hnl hyc hy0 (by omega) (by rw [hby]; have := Nat.mul_le_mul_right tj.bytes (Nat.le_add_left ys.length xs.length); omega)
                      have hge := grownCap_ge X.w ys.length 0 e'
                      rw [← hs, ← hx] at hr
                      refine fin (some X.w.heap.size) _ _ hr rfl rfl rfl (by simp) (fun m hm _ => heap_alloc_old X.w.drew _ hm) (fun n hn => by rw [hρ] at hn; cases hn) (.inr fun n hn => (Option.some.inj hn) ▸ Nat.le_refl _) fun Y hY W H => ?_
                      have := grown (grownCap X.w ys.length 0 e') [] _ (by omega) (grownCap_le_maxLen X.w ys.length 0 e' (by omega)) (by rw [hxs]; exact .nil) rfl Y (by rw [hY]; simp [hx0]) W H
                      simpa [hx0] using this
                    · obtain ⟨cur', cap', cssx, r1, r2, r3, r4, r5, r6, r7⟩ := row_cells hrb hρ
                      rw [hcur] at r1; cases r1
                      have hcc : cap' = cap := Nat.eq_of_mul_eq_mul_right hpos (r2.symm.trans hcs)
                      subst hcc
                      have hxl : cssx.flatten.length = xs.length * tj.K.size := by rw [flatten_length r5.lens, ← r5.length]
                      have hyl : cssy.flatten.length = ys.length * tj.K.size := by rw [flatten_length hyr.lens, ← hyr.length]
                      by_cases hroom : xs.length + ys.length ≤ cap'
                      · have hfit : xs.length * inf.size + cssy.flatten.length ≤ cur.size := by rw [hnl, hsz, hcs, ← Nat.add_mul]; exact Nat.mul_le_mul_right _ hroom
                        have hr := run_append_room (P := P) X.w t o.type e' inf hu hi b xs.length cap' cur hcur ad ys.length cy cssy.flatten hnl hyc hn1 hroom hfit
                        have hsz2 : ((cur.toList.take (xs.length * inf.size) ++ cssy.flatten ++ cur.toList.drop (xs.length * inf.size + cssy.flatten.length)).toArray).size = cur.size := by
                          simp only [List.size_toArray, List.length_append, List.length_take, List.length_drop, Array.length_toList]; omega
                        rw [← hs, ← hx] at hr
                        refine fin (some b) _ _ hr rfl rfl rfl (by rw [setRow_size]; exact Nat.le_refl _) (fun m _ hm => setRow_other _ _ _ _ fun e => hm (e ▸ hρ))
                          (fun n hn c e f hc => by rw [hρ] at hn; cases hn; rw [hcur] at hc; cases hc; exact ⟨_, setRow_heap _ _ _ _ _ _ hcur, hsz2⟩) (.inl hρ.symm) fun Y hY W H => ?_
                        have hnew : Y.w.heap[b]? = some (.cells (cur.toList.take (xs.length * inf.size) ++ cssy.flatten ++ cur.toList.drop (xs.length * inf.size + cssy.flatten.length)).toArray e' (0, 0)) := by subst hY; exact setRow_heap _ _ _ _ _ _ hcur
                        have hρY : Y.ρ fresh = some b := by subst hY; exact upd_same ..
                        have hYg : Y.hp[fresh]? = some (.row e' tj.K (xs ++ ys)) := by subst hY; exact hpSet_same ..
                        refine ⟨.inr ⟨b, _, cap', cssx ++ cssy, hρY, hnew, by rw [hsz2, hcs], by rw [hlen]; exact hroom, r4, (r5.append hyr).imp fun _ _ _ _ hr => RP.evo W at_.ok.fo hr, ?_⟩, ?_⟩
                        · rw [List.flatten_append, hlen, Nat.add_mul, hsz, ← r6, ← hxl, ← hyl]
                          simp only [List.toList_toArray]
                          rw [List.take_append_of_le_length (by simp), List.take_of_length_le (by simp)]
                        · have := RS.row_new hYg hρY hnew (by rw [hsz2, hcs]) (by rw [hlen]; exact hroom)
                          rwa [hlen] at this
                      · have hr := run_append_grow (P := P) X.w t o.type e' inf z hu hi hz ⟨b, 0, none⟩ xs.length cap' cssx.flatten (by rw [hxl, hsz]) r7 ad ys.length cy cssy.flatten hnl hyc (by omega) (by omega) (growslice_fits (by omega) (by rw [hby]; exact hbytes))
                        have hge := grownCap_ge X.w (xs.length + ys.length) cap' e'
                        rw [← hs, ← hx] at hr
                        refine fin (some X.w.heap.size) _ _ hr rfl rfl rfl (by simp) (fun m hm _ => heap_alloc_old X.w.drew _ hm)
                          (fun n hn c e f hc => ⟨c, by rw [heap_alloc_old X.w.drew _ (show n < X.w.drew.heap.size from (Array.getElem?_eq_some_iff.1 hc).1)]; exact hc, rfl⟩) (.inr fun n hn => (Option.some.inj hn) ▸ Nat.le_refl _) fun Y hY W H => ?_
                        exact grown _ cssx _ hge (grownCap_le_maxLen X.w _ cap' e' hml) r5 (by simp) Y hY W H
              · cases h
            · cases h
          · cases h
        · cases h
      · cases h
    · cases h
  · cases h

end
end Go.Ev
