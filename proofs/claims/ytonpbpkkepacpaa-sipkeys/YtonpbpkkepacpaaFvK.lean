/-
  THE EVALUATOR's OPERATIONS ARE THE MODEL's, MORE: loads, fields, elements, slices, lengths, the least and the greatest.
-/
import Derived.Test.YtonpbpkkepacpaaFvJ
set_option linter.all false
namespace Go.Ev
variable {A : Type}

/-- What a row of ours holds, by address. -/
theorem row_cells {X : Cx} {id : Nat} {e : TypeId} {K : Kind} {xs : List K.den} {b : Nat} (h : RB X id (.row e K xs)) (hb : X.ρ id = some b) :
    ∃ cur cap css, X.w.heap[b]? = some (.cells cur e (0, 0)) ∧ cur.size = cap * K.size ∧ xs.length ≤ cap ∧ cap ≤ maxLen ∧ All2 (RP X.F X.w K) xs css ∧ css.flatten = cur.toList.take (xs.length * K.size) ∧
      ∀ j u, css.flatten[j]? = some u → X.w.cell? ((⟨b, 0, none⟩ : Addr).add j) = some u := by
  rcases h with ⟨h, _⟩ | ⟨n, cur, cap, css, h1, h2, h3, h4, h5, h6, h7⟩
  · rw [hb] at h; cases h
  · rw [hb] at h1; cases h1
    refine ⟨cur, cap, css, h2, h3, h4, h5, h6, h7, fun j u hj => ?_⟩
    rw [add_lit, Nat.zero_add, cell_of_row _ _ _ _ _ _ h2]
    rw [h7, List.getElem?_take] at hj
    split at hj
    · simpa using hj
    · cases hj

theorem flatten_drop {css : List (List Value)} {m : Nat} (h : ∀ c ∈ css, c.length = m) (l : Nat) : (css.drop l).flatten = css.flatten.drop (l * m) := by
  induction css generalizing l with
  | nil => simp
  | cons c r ih =>
    have hc := h c (by simp)
    cases l with
    | zero => simp
    | succ l =>
      rw [List.drop_succ_cons, ih (fun c hc => h c (by simp [hc])), List.flatten_cons, Nat.succ_mul, Nat.add_comm, ← hc, List.drop_length_add_append]

theorem flatten_take {css : List (List Value)} {m : Nat} (h : ∀ c ∈ css, c.length = m) (l : Nat) : (css.take l).flatten = css.flatten.take (l * m) := by
  induction css generalizing l with
  | nil => simp
  | cons c r ih =>
    have hc := h c (by simp)
    cases l with
    | zero => simp
    | succ l =>
      rw [List.take_succ_cons, List.flatten_cons, ih (fun c hc => h c (by simp [hc])), List.flatten_cons, Nat.succ_mul, Nat.add_comm, ← hc, List.take_length_add_append]

theorem part_get {css : List (List Value)} {m : Nat} (h : ∀ c ∈ css, c.length = m) {l n j : Nat} {u : Value} (hj : ((css.drop l).take n).flatten[j]? = some u) : css.flatten[l * m + j]? = some u := by
  rw [flatten_take (fun c hc => h c (List.mem_of_mem_drop hc)), flatten_drop h, List.getElem?_take] at hj
  split at hj
  · simpa using hj
  · cases hj

section
variable {P : Program} {E : Env A} (T : TyOK P E) {o : Oper} {ev : Operand → AV} {sub : List (Nat × Blk)} {fresh : Nat} {k : Cont A} {out : A}

include T in
theorem load_op_sound {t : TypeId} {a : Operand} (ho : o.op = .load t a) (h : (loadK sub (ev a) fun y => E.ti t fun i => if y.fits i.K then k y [] else none) = some out) : ∃ v l, k v l = some out ∧ OpSem P o ev sub fresh v l := by
  have ma : a ∈ o.op.operands := by simp [Op.operands, ho]
  have run : ∀ {i : TI} (hi : E.ty.lookup t = some i) {y : AV} (hf : y.fits i.K = true) (X : Cx) (ac : Act) (ad : Addr) (cs : List Value), ac.eval a = .pointer (some ad) → RA X y cs → (∀ j u, cs[j]? = some u → X.w.cell? (ad.add j) = some u) →
      ∃ u, (execOp ac.eval o).run P X.w = .ok (.value u) X.w ∧ RS X y u := fun {i} hi {y} hf X ac ad cs h1 h2 h3 => by
    obtain ⟨v, h4, h5⟩ := load_sound T hi hf h2 h3
    exact ⟨v, by simp [execOp, ho, h1, Instr.loadAt, Instr.sureAddr, h4], RS.of0 h5 (fits_noTup hf)⟩
  unfold loadK at h
  split at h
  · rename_i K x ea
    obtain ⟨i, hi, h⟩ := ti_sound h
    split at h
    · rename_i hf
      exact ⟨_, _, h, opsem_value fun X ac at_ => by
        have h1 := at_.opr a ma; rw [ea] at h1
        obtain ⟨ad, cs, h2, _, h3, h4⟩ := (RS.one (by simp) (by simp) (by simp) (by simp)).1 h1
        exact run hi hf X ac ad cs h2 h3 h4⟩
    · cases h
  · rename_i id path ea
    obtain ⟨B, hB, h⟩ := look_sound h
    split at h
    · rename_i t' K av
      obtain ⟨y, h, hs⟩ := getV_sound h
      obtain ⟨i, hi, h⟩ := ti_sound h
      split at h
      · rename_i hf
        exact ⟨_, _, h, opsem_value fun X ac at_ => by
          have h1 := at_.opr a ma; rw [ea] at h1
          have hX := at_.sub _ _ hB
          obtain ⟨b, off, K', h2, h3, h4⟩ := (R1_ptr hX).1 ((RS.one (by simp) (by simp) (by simp) (by simp)).1 h1)
          obtain ⟨hfv, b', cs, h5, h6, h7⟩ := at_.ok.blk _ _ hX
          rw [h2] at h5; cases h5
          obtain ⟨off', K'', h8, _, h9⟩ := hs hfv h7
          rw [h3] at h8; cases h8
          refine run hi hf X ac _ _ h4 h9 fun j u hj => ?_
          rw [add_lit, cell_of_row _ _ _ _ _ _ h6]
          simpa using cut_get hj⟩
      · cases h
    · rename_i t' K xs
      split at h
      · rename_i i0 r _
        obtain ⟨y0, hy0, h⟩ := Option.bind_eq_some_iff.1 h
        obtain ⟨K', y, h, hs⟩ := getK_sound h
        obtain ⟨i, hi, h⟩ := ti_sound h
        split at h
        · rename_i hf
          exact ⟨_, _, h, opsem_value fun X ac at_ => by
            have h1 := at_.opr a ma; rw [ea] at h1
            have hX := at_.sub _ _ hB
            obtain ⟨b, i', r', off, K1, hp, hlt, h2, h3, h4⟩ := (R1_ptrR hX).1 ((RS.one (by simp) (by simp) (by simp) (by simp)).1 h1)
            simp only [List.cons.injEq, Hop.idx.injEq] at hp
            obtain ⟨rfl, rfl⟩ := hp
            obtain ⟨cur, cap, css, h5, h6, h7, _, h8, h9, h10⟩ := row_cells (at_.ok.blk _ _ hX) h2
            obtain ⟨cs, h11, h12⟩ := elem_cells h8 h10 hy0
            obtain ⟨off', h13, h14⟩ := hs h11
            rw [h3] at h13; cases h13
            refine run hi hf X ac _ _ h4 (show RA X (.p K' y) _ from h14) fun j u hj => ?_
            have := h12 _ _ (cut_get hj)
            rw [add_lit, add_lit] at this
            rw [add_lit, show i0 * K.size + off + j = 0 + i0 * K.size + (off + j) by omega]
            exact this⟩
        · cases h
      · cases h
    · cases h
  · cases h

include T in
theorem fieldAddr_sound {t : TypeId} {x : Operand} {f : Nat} (ho : o.op = .fieldAddr t x f) (h : fieldAddrK E sub t (ev x) f (fun v => k v []) = some out) : ∃ v l, k v l = some out ∧ OpSem P o ev sub fresh v l := by
  have mx : x ∈ o.op.operands := by simp [Op.operands, ho]
  obtain ⟨ti, hti, h⟩ := ti_sound h
  split at h
  · rename_i ts hd
    split at h
    · rename_i hf
      obtain ⟨fs, hu, hb⟩ := T.struct hti hd
      obtain ⟨fd, j, o', hg, hj, hpos, hoff, hko⟩ := fieldsB_get hb hf
      have hg' : fs[f]? = some fd := by simpa using hg
      have run : ∀ (ac : Act) (w : World) (ad : Addr), ac.eval x = .pointer (some ad) → (execOp ac.eval o).run P w = .ok (.value (.pointer (some (ad.add o')))) w := fun ac w ad h1 => by
        have hne : ¬ j.K.size = 0 := by omega
        have e : fd.offset = o' := by omega
        simp [execOp, ho, Instr.fieldAt, h1, run_underlying hu, hg', Instr.sureAddr, fieldPlace, T.runSize hj, hne, e]
      split at h
      · rename_i id path ex
        obtain ⟨K', h, hs⟩ := kindAt_sound h
        split at h
        · rename_i hKe
          exact ⟨_, _, h, opsem_value fun X ac at_ => by
            have h1 := at_.opr x mx; rw [ex] at h1
            obtain ⟨b, off, h3, h4⟩ := hs X _ at_.sub ((RS.one (by simp) (by simp) (by simp) (by simp)).1 h1)
            refine ⟨_, run ac X.w _ h3, (RS.one (by simp) (by simp) (by simp) (by simp)).2 ?_⟩
            rw [add_lit]
            exact h4 [.fld f] _ j.K (by rw [hKe]; exact hko)⟩
        · cases h
      · rename_i K y ex
        split at h
        · rename_i hKe
          subst hKe
          obtain ⟨K', y', h, hs⟩ := getK_sound h
          exact ⟨_, _, h, opsem_value fun X ac at_ => by
            have h1 := at_.opr x mx; rw [ex] at h1
            obtain ⟨ad, cs, h2, hF, h3, h4⟩ := (RS.one (by simp) (by simp) (by simp) (by simp)).1 h1
            obtain ⟨off, h5, h6⟩ := hs h3
            rw [hko] at h5; cases h5
            refine ⟨_, run ac X.w _ h2, RS.vp (by rw [add_block]; exact hF) h6 fun j u hj => ?_⟩
            rw [add_add]
            exact h4 _ _ (cut_get hj)⟩
        · cases h
      · cases h
    · cases h
  · cases h

include T in
theorem field_sound {t : TypeId} {x : Operand} {f : Nat} (ho : o.op = .field t x f) (h : fieldK E t (ev x) f (fun v => k v []) = some out) : ∃ v l, k v l = some out ∧ OpSem P o ev sub fresh v l := by
  have mx : x ∈ o.op.operands := by simp [Op.operands, ho]
  obtain ⟨ti, hti, h⟩ := ti_sound h
  split at h
  · rename_i ts hd
    split at h
    · rename_i hf
      split at h
      · cases h
      · rename_i hna
        split at h
        · rename_i hfit
          obtain ⟨fs, hu, hb⟩ := T.struct hti hd
          obtain ⟨fd, j, o', hg, hj, hpos, hoff, hko⟩ := fieldsB_get hb hf
          have hg' : fs[f]? = some fd := by simpa using hg
          have e : fd.offset = o' := by omega
          obtain ⟨y, h, hs⟩ := getV_sound h
          exact ⟨_, _, h, opsem_value fun X ac at_ => by
            have h1 := (at_.opr x mx).to0 (fits_noTup hfit)
            have hagg : ti.K.isAgg = true := by
              cases hK : ti.K with
              | pair a b => rfl
              | unit => rfl
              | arr n e => rfl
              | _ => rw [hK] at hko; simp [koff] at hko
            rcases h1 with h1 | ⟨cs, h2, ⟨_, h3⟩ | ⟨h3, _⟩⟩
            · rw [h1] at hna; exact absurd rfl hna
            · obtain ⟨off, K', h4, h5, h6⟩ := hs hfit h2
              rw [hko] at h4; cases h4
              obtain ⟨v, h7, h8⟩ := part_sound T hj h5 h6 X.w
              exact ⟨v, by simp [execOp, ho, Instr.field, run_underlying hu, hg', h3, asAgg, e, h7], RS.of0 h8 (fits_noTup h5)⟩
            · rw [fits_agg hfit (by simpa using hna), hagg] at h3; cases h3⟩
        · cases h
    · cases h
  · cases h

include T in
theorem index_sound {t : TypeId} {x ix : Operand} (ho : o.op = .index t x ix) (h : indexK E t (ev x) (ev ix) (fun v => k v []) = some out) : ∃ v l, k v l = some out ∧ OpSem P o ev sub fresh v l := by
  have mx : x ∈ o.op.operands := by simp [Op.operands, ho]
  have mi : ix ∈ o.op.operands := by simp [Op.operands, ho]
  obtain ⟨q, i, ei, h⟩ := asInt_sound h
  split at h
  · rename_i hi0
    obtain ⟨ti, hti, h⟩ := ti_sound h
    split at h
    · rename_i n e l ex
      split at h
      · rename_i hKe
        obtain ⟨y, hy, h⟩ := Option.bind_eq_some_iff.1 h
        obtain ⟨ds, hu, hd⟩ := T.desc hti
        have : ∃ e', P.underlying t = some (.array n e') ∧ ∃ j, E.ty.lookup e' = some j ∧ e = j.K := by
          obtain ⟨K, td, by', cm⟩ := ti
          simp only at hKe; subst hKe
          cases td with
          | array n' e' =>
            obtain ⟨h1, j, h2, h3, _⟩ := T.array hti rfl
            simp only [Kind.arr.injEq] at h3
            exact ⟨e', by rw [h3.1]; exact h1, j, h2, h3.2⟩
          | struct ts =>
            obtain ⟨fs, h1, h2⟩ := T.struct hti rfl
            cases hf : fs.toList <;> cases ts <;> simp [hf, fieldsB] at h2
          | _ => cases ds <;> simp at hd
        obtain ⟨e', hu', j, hj, rfl⟩ := this
        have h0 := (List.getElem?_eq_some_iff.1 hy).1
        exact ⟨_, _, h, opsem_value fun X ac at_ => by
          have h1 := at_.opr x mx; rw [ex] at h1
          have h2 := at_.opr ix mi; rw [ei, RS.int] at h2
          obtain ⟨cs, ⟨hl, css, rfl, hr⟩, ⟨_, h3⟩ | ⟨h3, _⟩⟩ := (h1.to0 (by simp)).data
          · have hlt : i < (n : Int) := (Int.toNat_lt hi0).1 (hl ▸ h0)
            obtain ⟨c, hc, hrc⟩ := hr.get hy
            have hlen := RP.length hrc
            have e1 := flatten_cut hr.lens hc (o := 0) (n := j.K.size) (by omega)
            rw [Nat.add_zero, cut_all c hlen.symm] at e1
            obtain ⟨v, h7, h8⟩ := part_sound T hj (X := X) (y := .p j.K y) (cs := css.flatten) (off := i.toNat * j.K.size) (by simp [AV.fits]) (by rw [e1]; exact hrc) X.w
            exact ⟨v, by simp [execOp, ho, Instr.index, h2, asIntOf, run_underlying hu', h3, hi0, hlt, T.runSize hj, h7], RS.of0 h8 (by simp)⟩
          · cases h3⟩
      · cases h
    · rename_i s ex
      split at h
      · rename_i hKe
        obtain ⟨y, hy, h⟩ := Option.bind_eq_some_iff.1 h
        have hu := T.str hti hKe.symm
        exact ⟨_, _, h, opsem_value fun X ac at_ => by
          have h1 := at_.opr x mx; rw [ex, RS.str] at h1
          have h2 := at_.opr ix mi; rw [ei, RS.int] at h2
          simp only [strBytes, List.getElem?_map, Option.map_eq_some_iff] at hy
          obtain ⟨b, hb, rfl⟩ := hy
          have hb' : s[i.toNat]? = some b := by
            obtain ⟨d⟩ := s
            obtain ⟨h4, h5⟩ := List.getElem?_eq_some_iff.1 hb
            have hlt : i.toNat < (⟨d⟩ : ByteArray).size := by simpa [ByteArray.size] using h4
            rw [getElem?_pos (⟨d⟩ : ByteArray) i.toNat hlt]
            exact congrArg some (by rw [← h5]; rfl)
          exact ⟨_, by simp [execOp, ho, Instr.index, h1, h2, asIntOf, run_underlying hu, hi0, hb'] <;> rfl, RS.int.2 rfl⟩⟩
      · cases h
    · cases h
  · cases h

include T in
theorem len_sound {t : TypeId} {ts : List TypeId} {x : Operand} {c : Call} (ho : o.op = .call c) (hc : c.callee = .builtin .len) (ha : c.args.toList = [x]) (ht : c.argTypes.toList = t :: ts)
    (h : lenK E sub t (ev x) (fun v => k v []) = some out) : ∃ v l, k v l = some out ∧ OpSem P o ev sub fresh v l := by
  have ha' : c.args = #[x] := Array.toList_inj.1 ha
  have ht' : c.argTypes = (t :: ts).toArray := Array.toList_inj.1 (by simpa using ht)
  have mx : x ∈ o.op.operands := by simp [Op.operands, ho, Call.operands, hc, ha']
  have pre : ∀ (ac : Act) (w : World) (n : Nat), (Builtin.len_ c.argTypes o.type #[ac.eval x]).run P w = .ok (goInt n) w → (execOp ac.eval o).run P w = .ok (.value (.int .i64 n)) w := fun ac w n hr => by
    simp [execOp, ho, resolve, hc, ha', invoke, builtin]
    rw [hr]; rfl
  obtain ⟨ti, hti, h⟩ := ti_sound h
  split at h
  · rename_i e hd
    obtain ⟨hu, _⟩ := T.slice hti hd
    have run : ∀ (ac : Act) (w : World) (ao : Option Addr) (n cap : Nat), ac.eval x = .slice ao n cap → (execOp ac.eval o).run P w = .ok (.value (.int .i64 n)) w := fun ac w ao n cap h1 =>
      pre ac w n (by simp [Builtin.len_, ht', h1, run_underlying hu])
    split at h
    · rename_i K xs ex
      exact ⟨_, _, h, opsem_value fun X ac at_ => by
        have h1 := at_.opr x mx; rw [ex] at h1
        obtain ⟨ao, cap, h3, _⟩ := sl_elem h1
        exact ⟨_, run ac X.w _ _ _ h3, RS.int.2 rfl⟩⟩
    · rename_i id ex
      obtain ⟨B, hB, h⟩ := look_sound h
      split at h
      · rename_i t' K xs
        exact ⟨_, _, h, opsem_value fun X ac at_ => by
          have h1 := at_.opr x mx; rw [ex] at h1
          have hX := at_.sub _ _ hB
          rcases (R1_row hX).1 ((RS.one (by simp) (by simp) (by simp) (by simp)).1 h1) with ⟨_, h3, h4⟩ | ⟨b, cap, cur, h3, h4, _⟩
          · exact ⟨_, run ac X.w _ _ _ h4, RS.int.2 (by rw [h3])⟩
          · exact ⟨_, run ac X.w _ _ _ h4, RS.int.2 rfl⟩⟩
      · cases h
    · rename_i id lo n ex
      obtain ⟨B, hB, h⟩ := look_sound h
      split at h
      · rename_i t' K xs
        exact ⟨_, _, h, opsem_value fun X ac at_ => by
          have h1 := at_.opr x mx; rw [ex] at h1
          have hX := at_.sub _ _ hB
          obtain ⟨_, ao, c', h3, _⟩ := (R1_sub hX).1 ((RS.one (by simp) (by simp) (by simp) (by simp)).1 h1)
          exact ⟨_, run ac X.w _ _ _ h3, RS.int.2 rfl⟩⟩
      · cases h
    · rename_i id path lo n ex
      obtain ⟨B, hB, h⟩ := look_sound h
      split at h
      · rename_i t' K av
        exact ⟨_, _, h, opsem_value fun X ac at_ => by
          have h1 := at_.opr x mx; rw [ex] at h1
          have hX := at_.sub _ _ hB
          obtain ⟨_, _, _, _, _, _, _, ao, c', h3, _⟩ := (R1_slc hX).1 ((RS.one (by simp) (by simp) (by simp) (by simp)).1 h1)
          exact ⟨_, run ac X.w _ _ _ h3, RS.int.2 rfl⟩⟩
      · cases h
    · cases h
  · rename_i n e hd
    obtain ⟨hu, _⟩ := T.array hti hd
    exact ⟨_, _, h, opsem_value fun X ac at_ => ⟨_, pre ac X.w n (by simp [Builtin.len_, ht', run_underlying hu]), RS.int.2 rfl⟩⟩
  · split at h
    · rename_i s ex
      split at h
      · rename_i hKe
        have hu := T.str hti hKe.symm
        exact ⟨_, _, h, opsem_value fun X ac at_ => by
          have h1 := at_.opr x mx; rw [ex, RS.str] at h1
          exact ⟨_, pre ac X.w s.size (by simp [Builtin.len_, ht', h1, run_underlying hu]), RS.int.2 rfl⟩⟩
      · cases h
    · cases h
  · rename_i a b hd
    have hu := T.map hti hd
    split at h
    · rename_i id ex
      obtain ⟨B, hB, h⟩ := look_sound h
      split at h
      · rename_i KK KV es
        exact ⟨_, _, h, opsem_value fun X ac at_ => by
          have h1 := at_.opr x mx; rw [ex] at h1
          have hX := at_.sub _ _ hB
          obtain ⟨b', h3, h4⟩ := (R1_mp hX).1 ((RS.one (by simp) (by simp) (by simp) (by simp)).1 h1)
          obtain ⟨b'', mes, clock, h5, h6, h7⟩ := at_.ok.blk _ _ hX
          rw [h3] at h5; cases h5
          have hl := h7.length
          exact ⟨_, pre ac X.w mes.size (by simp [Builtin.len_, ht', h4, run_underlying hu, getObj, Sem.run, h6]), RS.int.2 (by simp at hl; rw [hl])⟩⟩
      · cases h
    · cases h
  · cases h

end
end Go.Ev
