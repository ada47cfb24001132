/-
  THE EVALUATOR's OPERATIONS ARE THE MODEL's, MORE: slices made, conversions, copy.
-/
import Derived.Test.YtonpbpkkepacpaaFvQ
import Derived.Laws.CopyOwn
import Derived.Laws.BytesString
set_option linter.all false
namespace Go.Ev
variable {A : Type}

theorem replicate_take_flat (zs : List Value) (m : Nat) : ∀ n k : Nat, n ≤ m → k = n * zs.length → ((List.replicate m zs).flatten).take k = (List.replicate n zs).flatten := by
  intro n k hn hk
  obtain ⟨d, rfl⟩ : ∃ d, m = n + d := ⟨m - n, by omega⟩
  rw [← List.replicate_append_replicate, List.flatten_append]
  have hl : (List.replicate n zs).flatten.length = k := by rw [hk]; simp
  rw [List.take_append_of_le_length (by omega), ← hl, List.take_length]

theorem flat_ints {F : Nat → Prop} {w : World} {q : IntKind} {ys : List Int} {css : List (List Value)} (h : All2 (RP F w (.int q)) ys css) : css.flatten = ys.map (Value.int q) := by
  induction h with
  | nil => rfl
  | cons hh _ ih => simp only [List.flatten_cons, List.map_cons]; rw [ih]; simp only [RP] at hh; rw [hh]; rfl

/-- Lists of one cell an element. -/
theorem flat_take {css : List (List Value)} (h : ∀ c ∈ css, c.length = 1) (n : Nat) : (css.take n).flatten = css.flatten.take n := by
  induction css generalizing n with
  | nil => simp
  | cons c r ih =>
    have hc := h c (by simp)
    match c, hc with
    | [v], _ =>
      cases n with
      | zero => simp
      | succ n => simp only [List.take_succ_cons, List.flatten_cons, List.singleton_append, List.take_succ_cons]; rw [ih fun c hc => h c (by simp [hc])]
theorem flat_drop {css : List (List Value)} (h : ∀ c ∈ css, c.length = 1) (n : Nat) : (css.drop n).flatten = css.flatten.drop n := by
  induction css generalizing n with
  | nil => simp
  | cons c r ih =>
    have hc := h c (by simp)
    match c, hc with
    | [v], _ =>
      cases n with
      | zero => simp
      | succ n => simp only [List.drop_succ_cons, List.flatten_cons, List.singleton_append, List.drop_succ_cons]; rw [ih fun c hc => h c (by simp [hc])]

theorem splice_cut {cs : List Value} {off n : Nat} (h : off + n ≤ cs.length) : splice cs off (cut cs off n) = cs := by
  unfold splice cut
  have hl : (List.take n (List.drop off cs)).length = n := by simp; omega
  rw [hl, List.append_assoc, ← List.drop_drop, List.take_append_drop, List.take_append_drop]

theorem splice_in {cs A C : List Value} {off lo n : Nat} (hA : cut cs off n = A) (h : off + n ≤ cs.length) (h2 : lo + C.length ≤ n) : splice cs off (A.take lo ++ (C ++ A.drop (lo + C.length))) = splice cs (off + lo) C := by
  subst hA
  unfold splice cut
  have hl : (List.take lo (List.take n (List.drop off cs)) ++ (C ++ List.drop (lo + C.length) (List.take n (List.drop off cs)))).length = n := by simp; omega
  rw [hl, List.take_take, Nat.min_eq_left (by omega), List.drop_take]
  have e1 : cs.take (off + lo) = cs.take off ++ (cs.drop off).take lo := by rw [List.take_add]
  have e2 : cs.drop (off + lo + C.length) = (cs.drop off).drop (lo + C.length) := by rw [List.drop_drop, Nat.add_assoc]
  have e3 : cs.drop (off + n) = ((cs.drop off).drop (lo + C.length)).drop (n - (lo + C.length)) := by rw [List.drop_drop, List.drop_drop]; congr 1; omega
  rw [e1, e2, e3]
  simp only [List.append_assoc]
  rw [List.take_append_drop]

section
variable {P : Program} {E : Env A} (T : TyOK P E) {o : Oper} {ev : Operand → AV} {sub : List (Nat × Blk)} {fresh : Nat} {k : Cont A} {out : A}

include T in
theorem makeSlice_sound {t : TypeId} {l c : Operand} (ho : o.op = .makeSlice t l c) (h : makeSliceK E t (ev l) (ev c) fresh k = some out) : ∃ v l, k v l = some out ∧ OpSem P o ev sub fresh v l := by
  have ml : l ∈ o.op.operands := by simp [Op.operands, ho]
  have mc : c ∈ o.op.operands := by simp [Op.operands, ho]
  obtain ⟨q, n, en, h⟩ := asInt_sound h
  obtain ⟨q', m, em, h⟩ := asInt_sound h
  obtain ⟨i, hi, h⟩ := ti_sound h
  split at h
  · rename_i e hd
    obtain ⟨j, hj, h⟩ := ti_sound h
    obtain ⟨hu, j', hj', hK, hpos, hbp⟩ := T.slice hi hd
    rw [hj] at hj'; cases hj'
    split at h
    · rename_i h0
      split at h
      · rename_i h1
        split at h
        · rename_i h2
          obtain ⟨inf, z, hin, hz, hszz, hb, hcs, hzr⟩ := T.zeroInfo hj
          obtain ⟨inf', _, hin', _, hsz', hby⟩ := T.info hj
          rw [hin] at hin'; cases hin'
          refine ⟨_, _, h, opsem_new fun X ac at_ _ => ?_⟩
          have r1 := at_.opr l ml; rw [en, RS.int] at r1
          have r2 := at_.opr c mc; rw [em, RS.int] at r2
          have hzl : z.cells.toList.length = j.K.size := by simpa using hcs
          have hm0 : 0 ≤ m := by omega
          obtain ⟨M, rfl⟩ : ∃ M : Nat, m = (M : Int) := ⟨m.toNat, by omega⟩
          obtain ⟨N, rfl⟩ : ∃ N : Nat, n = (N : Int) := ⟨n.toNat, by omega⟩
          have hbn : 1 ≤ inf.bytes := by rw [hby]; exact hbp
          have hMb : (M : Int) * inf.bytes ≤ 140737488355328 := by rw [hby]; exact h2
          have hM : M * 1 ≤ M * inf.bytes := Nat.mul_le_mul_left _ hbn
          have hMi : ((M * inf.bytes : Nat) : Int) ≤ 140737488355328 := by rw [Int.natCast_mul]; exact hMb
          have hr := run_make (P := P) X.w t e inf z hu hin hz q q' N M h0 h1 (by rw [Int.mul_comm]; omega) (by omega)
          have hmc : madeCells z.cells (Int.toNat (M : Int) * inf.size) = (List.replicate M z.cells.toList).flatten.toArray := by
            have := zeros_flat z.cells.toList M
            rw [hzl] at this
            simp only [Array.toArray_toList] at this
            rw [← this]
            unfold madeCells
            rw [Int.toNat_natCast, hsz']
          rw [hmc, Int.toNat_natCast, Int.toNat_natCast] at hr
          refine ⟨.slice (some ⟨X.w.heap.size, 0, none⟩) N M, some X.w.heap.size, X.w.alloc (.cells (List.replicate M z.cells.toList).flatten.toArray e), ?_, rfl, rfl, rfl, by simp, fun q hq => heap_alloc_old X.w _ hq, fun q hq => (Option.some.inj hq) ▸ Nat.le_refl _, fun Y hY W H => ?_⟩
          · simp only [execOp, ho, r1, r2, Sem.run_bind, hr, Result.andThen_ok]; rfl
          · subst hY
            have hg : (hpSet X.hp fresh (.row e j.K (List.replicate (Int.toNat (N : Int)) j.K.zero)))[fresh]? = some (.row e j.K (List.replicate (Int.toNat (N : Int)) j.K.zero)) := hpSet_same ..
            have hn : (X.w.alloc (.cells (List.replicate M z.cells.toList).flatten.toArray e)).heap[X.w.heap.size]? = some (.cells (List.replicate M z.cells.toList).flatten.toArray e (0, 0)) := heap_alloc_new X.w _
            have hcap : ((List.replicate M z.cells.toList).flatten.toArray).size = M * j.K.size := by simp [← hzl]
            have hlen : (List.replicate (Int.toNat (N : Int)) j.K.zero).length = N := by simp
            refine ⟨.inr ⟨X.w.heap.size, (List.replicate M z.cells.toList).flatten.toArray, M, List.replicate N z.cells.toList, upd_same .., hn, hcap, by rw [hlen]; omega, ?_, ?_, ?_⟩, ?_⟩
            · simp only [maxLen]; omega
            · rw [Int.toNat_natCast]
              exact All2.replicate (RP.evo W at_.ok.fo (hzr X.F X.w)) N
            · rw [hlen]
              exact (replicate_take_flat _ M N _ (by omega) (by rw [hzl])).symm
            · have := RS.row_new (Y := ⟨upd X.ρ fresh (some X.w.heap.size), hpSet X.hp fresh (.row e j.K (List.replicate (Int.toNat (N : Int)) j.K.zero)), X.F, X.w.alloc (.cells (List.replicate M z.cells.toList).flatten.toArray e)⟩) hg (upd_same ..) hn hcap (by rw [hlen]; omega)
              rwa [hlen] at this
        · cases h
      · cases h
    · cases h
  · cases h

theorem mkStr_fold (ns : List Int) : ns.foldl (fun r n => r.push (UInt8.ofNat n.toNat)) ByteArray.empty = mkStr ns := by
  have key : ∀ (ns : List Int) (a : Array UInt8), ns.foldl (fun (r : ByteArray) n => r.push (UInt8.ofNat n.toNat)) ⟨a⟩ = ⟨a ++ (ns.map fun n => UInt8.ofNat n.toNat).toArray⟩ := by
    intro ns
    induction ns with
    | nil => intro a; simp
    | cons n ns ih =>
      intro a
      show ns.foldl _ (⟨a.push _⟩ : ByteArray) = _
      rw [ih]
      congr 1
      apply Array.ext'
      simp
  exact (key ns #[]).trans (by simp [mkStr])

include T in
theorem convert_sound {s d : TypeId} {x : Operand} (ho : o.op = .convert s d x) (h : convertK E sub s d (ev x) fresh k = some out) : ∃ v l, k v l = some out ∧ OpSem P o ev sub fresh v l := by
  have mx : x ∈ o.op.operands := by simp [Op.operands, ho]
  obtain ⟨i, hi, h⟩ := ti_sound h
  obtain ⟨j, hj, h⟩ := ti_sound h
  cases hb : isNum (ev x) with
  | true =>
    rw [hb, cond_true] at h
    split at h
    · rename_i q q' n hq ex
      obtain ⟨ds, hds, _⟩ := T.desc hi
      have hdd := T.int hj hq
      exact ⟨_, _, h, opsem_value fun X ac at_ => by
        have h1 := at_.opr x mx; rw [ex, RS.int] at h1
        exact ⟨_, by simp [execOp, ho, h1, convert, run_underlying hds, run_underlying hdd, Conv.intToInt] <;> rfl, RS.int.2 rfl⟩⟩
    · cases h
  | false =>
    rw [hb, cond_false] at h
    split at h
    · rename_i e hq hd
      obtain ⟨ei, hei, h⟩ := ti_sound h
      obtain ⟨K, ys, h, hl⟩ := listK_sound h
      split at h
      · rename_i hK; subst hK
        have h : (if ei.K = .int .u8 then k (.p .str (mkStr ys)) [] else none) = some out := h
        split at h
        · rename_i hek
          obtain ⟨hu, _⟩ := T.slice hi hd
          have hue := T.int hei hek
          have hdd := T.str hj hq
          exact ⟨_, _, h, opsem_value fun X ac at_ => by
            obtain ⟨ao, c, h1, h2, h3⟩ := (hl X _ at_.ok at_.sub (at_.opr x mx)).get
            refine ⟨.string (mkStr ys), ?_, RS.str.2 rfl⟩
            have hrun : (Conv.bytesToString (.slice ao ys.length c)).run P X.w = .ok (.string (mkStr ys)) X.w := by
              by_cases hp : 0 < ys.length
              · obtain ⟨ad, css, rfl, _, h4, h5⟩ := h3 hp
                have hfl := flat_ints h4
                have hlc := run_loadCells_list (P := P) X.w ad css.flatten h5
                rw [hfl] at hlc
                rw [List.length_map] at hlc
                rw [run_bytesToString X.w ad ys.length c ys hlc, mkStr_fold]
              · have h0 : ys = [] := List.eq_nil_of_length_eq_zero (by omega)
                subst h0
                have : (Conv.bytesToString (.slice ao 0 c)).run P X.w = .ok (.string ByteArray.empty) X.w := by
                  unfold Conv.bytesToString
                  cases ao with
                  | none => simp [Sem.run_pure]
                  | some ad =>
                    have := run_loadCells_list (P := P) X.w ad [] (by simp)
                    simp only [List.length_nil] at this
                    simp [this, Sem.run_pure]
                exact this
            simp only [execOp, ho, h1, Sem.run_bind, run_convert_bytes_string X.w _ _ _ _ _ _ hu hue hdd, hrun, Result.andThen_ok]
            rfl⟩
        · cases h
      · cases h
    · cases h

include T in
theorem copy_sound {t t2 : TypeId} {d x : Operand} {c : Call} (ho : o.op = .call c) (hc : c.callee = .builtin .copy) (ha : c.args.toList = [d, x]) (ht : c.argTypes.toList = [t, t2])
    (h : copyK E t sub (ev d) (ev x) k = some out) : ∃ v l, k v l = some out ∧ OpSem P o ev sub fresh v l := by
  have ha' : c.args = #[d, x] := Array.toList_inj.1 ha
  have ht' : c.argTypes = #[t, t2] := Array.toList_inj.1 ht
  have md : d ∈ o.op.operands := by simp [Op.operands, ho, Call.operands, hc, ha']
  have mx : x ∈ o.op.operands := by simp [Op.operands, ho, Call.operands, hc, ha']
  obtain ⟨ti, hti, h⟩ := ti_sound h
  split at h
  · rename_i e0 hd
    obtain ⟨hu, j, hj, hK, hpos, _⟩ := T.slice hti hd
    obtain ⟨K, ys, h, hl⟩ := listK_sound h
    split at h
    · rename_i id path lo len ed
      obtain ⟨B, hB, h⟩ := look_sound h
      split at h
      · rename_i t' KV v
        obtain ⟨y0, h, hg⟩ := getV_sound h
        split at h
        · rename_i n e l
          split at h
          · rename_i hKe; subst hKe
            split at h
            · rename_i hK2
              split at h
              · rename_i hsz
                obtain ⟨v', h, hfn, hs⟩ := setV_sound h
                refine ⟨_, _, h, opsem_write hB rfl rfl (.var ..) fun X ac at_ => ?_⟩
                have h1 := at_.opr d md; rw [ed] at h1
                have hX := at_.sub _ _ hB
                obtain ⟨b, off, n', e', h2, h3, h4, ao, cp, h5, h6, h7⟩ := (R1_slc hX).1 ((RS.one (by simp) (by simp) (by simp) (by simp)).1 h1)
                obtain ⟨hfo, b', cs, h8, h9, h10⟩ := at_.ok.blk _ _ hX
                rw [h2] at h8; cases h8
                obtain ⟨off', K', h11, h12, h13⟩ := hg hfo h10
                rw [h3] at h11; cases h11
                simp only [AV.fits, decide_eq_true_eq] at h12
                cases h12
                obtain ⟨hll, css, hcut, hall⟩ := h13
                have hinf : (P.info? e0).map (·.size) = some 1 := by
                  have := T.size hj
                  rw [hK] at hK2; cases hK2; rw [this, hsz]
                obtain ⟨sao, sc, g1, g2, g3⟩ := (hl X _ at_.ok at_.sub (at_.opr x mx)).get
                have one : ∀ {l : List K.den} {css : List (List Value)}, All2 (RP X.F X.w K) l css → ∀ c ∈ css, c.length = 1 := fun h c hc => by rw [← hsz]; exact h.lens c hc
                have hA : css.flatten.length = n := by rw [flatten_length (one hall), ← hall.length, hll, Nat.mul_one]
                have hoff := koff_le h3
                have hcsl : cs.length = KV.size := RA.length hfo h10
                have hsize : off + n ≤ cs.length := by rw [hcsl]; simp only [Kind.size] at hoff; rw [hsz, Nat.mul_one] at hoff; exact hoff
                have hnsz : (Kind.arr n K).size = n := by simp only [Kind.size]; rw [hsz, Nat.mul_one]
                have hcutd : ∀ i u, css.flatten[i]? = some u → cs[off + i]? = some u := fun i u hi => by
                  rw [← hcut] at hi
                  exact cut_get hi
                have exec : ∀ (w' : World) (r : Nat), (Builtin.copy_ c.argTypes o.type #[ac.eval d, ac.eval x]).run P X.w = .ok (goInt r) w' → (execOp ac.eval o).run P X.w = .ok (.value (.int .i64 r)) w' := fun w' r hr => by
                  simp [execOp, ho, resolve, hc, ha', invoke, builtin]
                  rw [hr]; rfl
                by_cases hz : min ys.length len = 0
                · -- nothing goes over
                  have hrun : (execOp ac.eval o).run P X.w = .ok (.value (.int .i64 ((min ys.length len : Nat) : Int))) X.w := by
                    refine exec _ _ ?_
                    rw [ht', g1, h5, hz]
                    exact run_copy_none X.w t t2 o.type e0 ao sao len cp ys.length sc hu hinf hz
                  have hnew : l.take lo ++ (ys.take len ++ l.drop (lo + min ys.length len)) = l := by
                    have : ys.take len = [] := List.eq_nil_of_length_eq_zero (by rw [List.length_take]; omega)
                    rw [this, hz, List.nil_append, Nat.add_zero, List.take_append_drop]
                  have hvc : RA X (.p (.arr n K) (l.take lo ++ (ys.take len ++ l.drop (lo + min ys.length len)))) css.flatten := by rw [hnew]; exact ⟨hll, css, rfl, hall⟩
                  obtain ⟨off', K', k1, k2, k3⟩ := hs hfo h10 hvc
                  rw [h3] at k1; cases k1
                  have hsp : splice cs off css.flatten = cs := by
                    rw [← hcut, hnsz]; exact splice_cut hsize
                  rw [hsp] at k3
                  refine ⟨_, _, b, X.w, hrun, .inl rfl, h2, rfl, rfl, rfl, Nat.le_refl _, fun _ _ _ => rfl, fun c' e' f' hc' => ⟨c', hc', rfl⟩, fun Y hY W H => ?_⟩
                  subst hY
                  exact ⟨⟨hfn hfo, b, cs, h2, h9, k3.evo W H at_.ok.fo⟩, RS.int.2 rfl⟩
                · have hlen : 0 < len := by omega
                  have hyl : 0 < ys.length := by omega
                  have hao := h7 hlen
                  subst hao
                  obtain ⟨ad, css2, rfl, _, g4, g5⟩ := g3 hyl
                  have hC : ((css2.take len).flatten).length = min ys.length len := by rw [flat_take (one g4), List.length_take, flatten_length (one g4), ← g4.length]; omega
                  have hrow := run_copy_row (P := P) X.w t t2 o.type e0 b (off + lo * K.size) len cp ad ys.length sc cs.toArray t' (css2.take len).flatten hu hinf h9 hC (fun j v hj => g5 j v (by
                      rw [flat_take (one g4), List.getElem?_take] at hj
                      split at hj
                      · exact hj
                      · cases hj)) (by rw [hC, hsz]; simp only [List.size_toArray]; omega) (fun v hv => by
                      obtain ⟨cc, hcc, hv⟩ := List.mem_flatten.1 hv
                      obtain ⟨i, hi⟩ := List.mem_iff_getElem?.1 (List.mem_of_mem_take hcc)
                      obtain ⟨a, _, hr⟩ := g4.get' hi
                      exact RP.one hr v hv)
                  rw [hC] at hrow
                  have hrun := exec _ _ (by rw [ht', g1, h5]; exact hrow)
                  have hvc : RA X (.p (.arr n K) (l.take lo ++ (ys.take len ++ l.drop (lo + min ys.length len)))) (css.flatten.take lo ++ ((css2.take len).flatten ++ css.flatten.drop (lo + (css2.take len).flatten.length))) := by
                    refine ⟨by simp only [List.length_append, List.length_take, List.length_drop]; omega, css.take lo ++ (css2.take len ++ css.drop (lo + min ys.length len)), ?_, (hall.take lo).append ((g4.take len).append (hall.drop _))⟩
                    rw [List.flatten_append, List.flatten_append, flat_take (one hall), flat_drop (one hall), hC]
                  obtain ⟨off', K', k1, k2, k3⟩ := hs hfo h10 hvc
                  rw [h3] at k1; cases k1
                  rw [hnsz] at hcut
                  rw [splice_in hcut hsize (by rw [hC]; omega)] at k3
                  have hw : ((cs.toArray.toList.take (off + lo * K.size) ++ (css2.take len).flatten ++ cs.toArray.toList.drop (off + lo * K.size + min ys.length len)).toArray) = (splice cs (off + lo) (css2.take len).flatten).toArray := by
                    unfold splice; rw [hsz, Nat.mul_one, hC]
                  rw [hw] at hrun
                  refine ⟨_, _, b, _, hrun, .inl rfl, h2, rfl, rfl, rfl, by rw [setRow_size]; exact Nat.le_refl _, fun k _ hk => setRow_other _ _ _ _ hk, fun c' e' f' hc' => ⟨_, setRow_heap _ _ _ _ _ _ hc', ?_⟩, fun Y hY W H => ?_⟩
                  · rw [h9] at hc'; cases hc'
                    simp only [List.size_toArray]
                    exact splice_length (by rw [hC]; omega)
                  · subst hY
                    exact ⟨⟨hfn hfo, b, splice cs (off + lo) (css2.take len).flatten, h2, setRow_heap _ _ _ _ _ _ h9, k3.evo W H at_.ok.fo⟩, RS.int.2 rfl⟩
              · cases h
            · cases h
          · cases h
        · cases h
      · cases h
    · cases h
  · cases h

end
end Go.Ev
