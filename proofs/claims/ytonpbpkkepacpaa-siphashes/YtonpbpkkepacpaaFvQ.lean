/-
  THE EVALUATOR's OPERATIONS ARE THE MODEL's, MORE: slices built of parts, and made.
-/
import Derived.Test.YtonpbpkkepacpaaFvP
import Derived.Laws.MakeOwn
set_option linter.all false
namespace Go.Ev
variable {A : Type}

theorem fillRow_sound {ev : Operand → AV} {out : A} {n : Nat} {e : Kind} : ∀ {ps : List (Nat × Operand)} {l : List e.den} {k : List e.den → Option A}, fillRow n e (ps.map fun q => (q.1, ev q.2)) l k = some out → l.length = n →
    ∃ l', k l' = some out ∧ l'.length = n ∧ ∀ (X : Cx) (g : Operand → Value) (css : List (List Value)), (∀ q ∈ ps, RS X (ev q.2) (g q.2)) → All2 (RP X.F X.w e) l css →
      ∃ css', Instr.fill (fun i => some (i * e.size, e.size)) css.flatten.toArray (ps.map fun q => (q.1, g q.2)) = some css'.flatten.toArray ∧ All2 (RP X.F X.w e) l' css'
  | [], l, k, h, hl => ⟨l, h, hl, fun X g css _ hr => ⟨css, rfl, hr⟩⟩
  | (i, x) :: ps, l, k, h, hl => by
    simp only [List.map_cons, fillRow] at h
    obtain ⟨z, ez, hi, h⟩ := setIn_sound h
    obtain ⟨l', h, hl', hs⟩ := fillRow_sound h (by simpa using hl)
    refine ⟨l', h, hl', fun X g css hall hr => ?_⟩
    have hx := (hall (i, x) (by simp)).to0 (by simp only [ez]; simp)
    simp only [ez] at hx
    obtain ⟨vc, h1, h2⟩ := hx.cells (by simp [AV.isAny])
    have h1 : RP X.F X.w e z vc := h1
    have hvl := RP.length h1
    obtain ⟨c, hc, hrc⟩ := hr.get (show l[i]? = some (l[i]'(by omega)) from List.getElem?_eq_getElem _)
    have hcl := RP.length hrc
    have hfl : css.flatten.length = css.length * e.size := flatten_length hr.lens
    have hle : i * e.size + vc.length ≤ css.flatten.length := by
      rw [hfl, ← hr.length, hl, hvl, ← Nat.succ_mul]; exact Nat.mul_le_mul_right _ hi
    obtain ⟨css', h3, h4⟩ := hs X g (css.set i vc) (fun q hq => hall q (by simp [hq])) (hr.set i h1)
    refine ⟨css', ?_, h4⟩
    have hsp := flatten_splice hr.lens hc (v := vc) (o := 0) (by omega)
    rw [Nat.add_zero, splice_all (by omega)] at hsp
    simp only [List.map_cons, Instr.fill]
    have hvs : (g x).cells.size = e.size := by rw [h2]; simpa using hvl
    rw [if_neg (by rw [hvs]; rw [hvl] at hle; simp only [List.size_toArray, ne_eq, not_true_eq_false, gt_iff_lt, decide_false, Bool.false_or, decide_eq_true_eq]; exact Nat.not_lt.2 hle), fill_step h2 hle, hsp]
    exact h3

theorem zeros_flat (zs : List Value) (n : Nat) : (Array.range (n * zs.length)).map (fun i => zs.toArray[i % zs.toArray.size]!) = (List.replicate n zs).flatten.toArray := by
  apply Array.ext'
  simp only [Array.toList_map, Array.toList_range, List.toList_toArray, List.size_toArray]
  induction n with
  | zero => simp
  | succ n ih =>
    rw [Nat.succ_mul, List.range_add, List.map_append, ih, List.replicate_succ', List.flatten_append]
    congr 1
    simp only [List.map_map, List.flatten_cons, List.flatten_nil, List.append_nil]
    refine List.ext_getElem (by simp) fun j h1 h2 => ?_
    simp only [List.length_map, List.length_range] at h1
    simp [Nat.mul_add_mod_self_right, Nat.add_comm, Nat.mod_eq_of_lt h1, h1]

section
variable {P : Program} {E : Env A} (T : TyOK P E) {o : Oper} {ev : Operand → AV} {sub : List (Nat × Blk)} {fresh : Nat} {k : Cont A} {out : A}

include T in
theorem buildSlice_sound {t : TypeId} {n : Nat} {ps : Array (Nat × Operand)} (ho : o.op = .buildSlice t n ps)
    (h : (E.ti t fun i => match i.d with
      | .slice e => E.ti e fun j => if n * j.K.size ≤ 16777216 then fillRow n j.K (ps.toList.map fun q => (q.1, ev q.2)) (List.replicate n j.K.zero) fun l => k (.row fresh) [(fresh, .row e j.K l)] else none
      | _ => none) = some out) : ∃ v l, k v l = some out ∧ OpSem P o ev sub fresh v l := by
  have mp : ∀ q ∈ ps.toList, q.2 ∈ o.op.operands := fun q hq => by
    simp only [Op.operands, ho]
    simp only [List.mem_toArray, List.mem_map]
    exact ⟨q, hq, rfl⟩
  obtain ⟨i, hi, h⟩ := ti_sound h
  split at h
  · rename_i e hd
    obtain ⟨j, hj, h⟩ := ti_sound h
    obtain ⟨hu, j', hj', hK, hpos, _⟩ := T.slice hi hd
    rw [hj] at hj'; cases hj'
    split at h
    · rename_i hsz
      obtain ⟨l', h, hl', hs⟩ := fillRow_sound h (by simp)
      obtain ⟨inf, z, hin, hz, hszz, _, hcs, hzr⟩ := T.zeroInfo hj
      refine ⟨_, _, h, opsem_new fun X ac at_ _ => ?_⟩
      obtain ⟨css, h1, h2⟩ := hs X ac.eval (List.replicate n z.cells.toList) (fun q hq => at_.opr _ (mp q hq)) (All2.replicate (hzr X.F X.w) n)
      have hlen : css.flatten.length = n * j.K.size := by rw [flatten_length h2.lens, ← h2.length, hl']
      have hzl : z.cells.toList.length = j.K.size := by simpa using hcs
      refine ⟨.slice (some ⟨X.w.heap.size, 0, none⟩) n n, some X.w.heap.size, X.w.alloc (.cells css.flatten.toArray e), ?_, rfl, rfl, rfl, by simp, fun q hq => heap_alloc_old X.w _ hq, fun q hq => (Option.some.inj hq) ▸ Nat.le_refl _, fun Y hY W H => ?_⟩
      · have hnot : ¬ 2 ^ 24 < n * j.K.size := by omega
        have hzrun : (zeroValue e).run P X.w = .ok z X.w := by simp [zeroValue, typeInfo, hin, hz]
        have hzf := zeros_flat z.cells.toList n
        rw [hzl] at hzf
        simp only [Array.toArray_toList] at hzf
        have h1' : Instr.fill (fun i => some (i * j.K.size, j.K.size)) (List.replicate n z.cells.toList).flatten.toArray (ps.map fun q => (q.1, ac.eval q.2)).toList = some css.flatten.toArray := by rw [← h1, Array.toList_map]
        by_cases h0 : n = 0
        · subst h0
          have hr : (Instr.buildSlice t 0 (ps.map fun q => (q.1, ac.eval q.2))).run P X.w = .ok (.slice (some ⟨X.w.heap.size, 0, none⟩) 0 0) (X.w.alloc (.cells css.flatten.toArray e)) := by
            simp only [Instr.buildSlice, Sem.run_bind, run_underlying hu, T.runSize hj X.w, Result.andThen_ok, Nat.zero_mul, show ¬ (0 > 2 ^ 24) by decide, if_false, if_true, Sem.run_pure]
            have e1 : (Array.map (fun x => (#[] : Array Value)[x % (#[] : Array Value).size]!) (Array.range 0)) = (List.replicate 0 z.cells.toList).flatten.toArray := by apply Array.ext'; simp
            rw [e1, h1']
            simp [newRow]
          simp only [execOp, ho, Sem.run_bind, hr, Result.andThen_ok]; rfl
        · have hne : ¬ n * j.K.size = 0 := by
            intro h; rcases Nat.mul_eq_zero.1 h with h | h <;> omega
          have hr : (Instr.buildSlice t n (ps.map fun q => (q.1, ac.eval q.2))).run P X.w = .ok (.slice (some ⟨X.w.heap.size, 0, none⟩) n n) (X.w.alloc (.cells css.flatten.toArray e)) := by
            simp only [Instr.buildSlice, Sem.run_bind, run_underlying hu, T.runSize hj X.w, Result.andThen_ok, gt_iff_lt, hnot, if_false, hne, hzrun, Sem.run_pure, hzf]
            rw [h1']
            simp [newRow]
          simp only [execOp, ho, Sem.run_bind, hr, Result.andThen_ok]; rfl
      · subst hY
        have hg : (hpSet X.hp fresh (.row e j.K l'))[fresh]? = some (.row e j.K l') := hpSet_same ..
        have hn : (X.w.alloc (.cells css.flatten.toArray e)).heap[X.w.heap.size]? = some (.cells css.flatten.toArray e (0, 0)) := heap_alloc_new X.w _
        have hcap : (css.flatten.toArray).size = n * j.K.size := by simpa using hlen
        refine ⟨.inr ⟨X.w.heap.size, css.flatten.toArray, n, css, upd_same .., hn, hcap, by rw [hl']; exact Nat.le_refl _, ?_, h2.imp fun _ _ _ _ hr => RP.evo W at_.ok.fo hr, ?_⟩, ?_⟩
        · have := Nat.le_mul_of_pos_right n hpos
          simp only [maxLen]; omega
        · rw [hl', ← hlen]; simp only [List.take_length]
        · have := RS.row_new (Y := ⟨upd X.ρ fresh (some X.w.heap.size), hpSet X.hp fresh (.row e j.K l'), X.F, X.w.alloc (.cells css.flatten.toArray e)⟩) hg (upd_same ..) hn hcap (by rw [hl']; exact Nat.le_refl _)
          rwa [hl'] at this
    · cases h
  · cases h

end
end Go.Ev
