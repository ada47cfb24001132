/-
  THE EVALUATOR's OPERATIONS ARE THE MODEL's, MORE: stores, append.
-/
import Derived.Test.YtonpbpkkepacpaaFvL
import Derived.Laws.CopyOwn
set_option linter.all false
namespace Go.Ev
variable {A : Type}

/-- An operation that writes a block of ours. -/
theorem opsem_write {P : Program} {o : Oper} {ev : Operand → AV} {sub : List (Nat × Blk)} {fresh : Nat} {v : AV} {id : Nat} {B B' : Blk} (hB : sub.lookup id = some B) (hl : B.live = true) (hl' : B'.live = true) (he : BlkEvo B B')
    (h : ∀ (X : Cx) (a : Act), At X a o ev sub → ∃ (r : Next) (u : Value) (n : Nat) (w' : World), (execOp a.eval o).run P X.w = .ok r w' ∧ (r = .value u ∨ (r = .skip ∧ u = undef)) ∧ X.ρ id = some n ∧
      w'.os = X.w.os ∧ w'.tape = X.w.tape ∧ w'.output = X.w.output ∧ X.w.heap.size ≤ w'.heap.size ∧ (∀ k, k < X.w.heap.size → k ≠ n → w'.heap[k]? = X.w.heap[k]?) ∧
      (∀ (c : Array Value) (e : TypeId) (f : Nat × Nat), X.w.heap[n]? = some (Obj.cells c e f) → ∃ c' : Array Value, w'.heap[n]? = some (Obj.cells c' e f) ∧ c'.size = c.size) ∧
      ∀ Y : Cx, Y = ⟨X.ρ, hpSet X.hp id B', X.F, w'⟩ → WEvo X Y → HEvo X Y → RB Y id B' ∧ RS Y v u) : OpSem P o ev sub fresh v [(id, B')] :=
  ⟨fun q hq => .inr ⟨B, by simp at hq; subst hq; exact hB⟩, fun X a K Q at_ _ hk => by
    obtain ⟨r, u, n, w', hr, hru, hρ, h1, h2, h3, h4, h5, h6, h7⟩ := h X a at_
    obtain ⟨o1, o2, o3⟩ := write_ok at_.ok (at_.sub _ _ hB) hl hρ he hl' (w' := w') (Y := ⟨X.ρ, hpSet X.hp id B', X.F, w'⟩) rfl h1 h2 h3 h4 h5 h6 fun W H => (h7 _ rfl W H).1
    unfold Oper.wp; rw [hr]
    rcases hru with rfl | ⟨rfl, rfl⟩
    · exact hk ⟨X.ρ, hpSet X.hp id B', X.F, w'⟩ u rfl (h7 _ rfl o2 o3).2 o1 o2 o3
    · exact hk ⟨X.ρ, hpSet X.hp id B', X.F, w'⟩ undef rfl (h7 _ rfl o2 o3).2 o1 o2 o3⟩

theorem setRow_size (w : World) (g : Nat) (cs : Array Value) : (w.setRow g cs).heap.size = w.heap.size := by simp [World.setRow]

theorem splice_length {α : Type} {cs vc : List α} {off : Nat} (h : off + vc.length ≤ cs.length) : (splice cs off vc).length = cs.length := by
  simp [splice]; omega

theorem take_splice {α : Type} {cs vc : List α} {off n : Nat} (h : off + vc.length ≤ n) (hn : n ≤ cs.length) : (splice cs off vc).take n = splice (cs.take n) off vc := by
  unfold splice
  have hl : (cs.take off ++ vc).length = off + vc.length := by simp; omega
  rw [List.take_append, List.take_of_length_le (by omega), hl, List.take_take, List.drop_take, Nat.min_eq_left (by omega)]

section
variable {P : Program} {E : Env A} (T : TyOK P E) {o : Oper} {ev : Operand → AV} {sub : List (Nat × Blk)} {fresh : Nat} {k : Cont A} {out : A}

/-- The model's store into a block of ours. -/
theorem run_storeVar_at {X : Cx} {t te : TypeId} {i : TI} (hsz : ∀ w, (sizeOf t).run P w = .ok i.K.size w) {v : Value} {vc cs : List Value} {b off : Nat} (hv : v.cells = vc.toArray) (hl : vc.length = i.K.size) (h1 : ∀ u ∈ vc, u.oneCell' = true)
    (hb : X.w.heap[b]? = some (.cells cs.toArray te (0, 0))) (hle : off + vc.length ≤ cs.length) : (storeVar t ⟨b, off, none⟩ v).run P X.w = .ok () (X.w.setRow b (splice cs off vc).toArray) := by
  have hs := run_storeCells_at P b off te vc 0 cs.toArray X.w hb (by simpa using hle) h1
  simp only [Nat.add_zero] at hs
  simp [storeVar, hsz, hv, hl]
  rw [hs]
  rfl

include T in
theorem store_sound {t : TypeId} {a x : Operand} (ho : o.op = .store t a x)
    (h : (E.ti t fun i => if (ev x).isAny then none else if (ev x).fits i.K then storeK sub (ev a) (ev x) (fun l => k .any l) else none) = some out) : ∃ v l, k v l = some out ∧ OpSem P o ev sub fresh v l := by
  have ma : a ∈ o.op.operands := by simp [Op.operands, ho]
  have mx : x ∈ o.op.operands := by simp [Op.operands, ho]
  obtain ⟨i, hi, h⟩ := ti_sound h
  split at h
  · cases h
  rename_i hna
  split at h
  · rename_i hf
    have hna' : (ev x).isAny = false := by simpa using hna
    have val : ∀ (X : Cx) (ac : Act), At X ac o ev sub → ∃ vc, RA X (ev x) vc ∧ (ac.eval x).cells = vc.toArray ∧ vc.length = i.K.size ∧ ∀ u ∈ vc, u.oneCell' = true := fun X ac at_ => by
      obtain ⟨vc, h1, h2⟩ := ((at_.opr x mx).to0 (fits_noTup hf)).cells hna'
      exact ⟨vc, h1, h2, RA.length hf h1, h1.one⟩
    have world : ∀ (X : Cx) (b : Nat) (te : TypeId) (cs : List Value) (new : Array Value), X.w.heap[b]? = some (.cells cs.toArray te (0, 0)) → new.size = cs.length →
        (X.w.setRow b new).os = X.w.os ∧ (X.w.setRow b new).tape = X.w.tape ∧ (X.w.setRow b new).output = X.w.output ∧ X.w.heap.size ≤ (X.w.setRow b new).heap.size ∧
        (∀ k, k < X.w.heap.size → k ≠ b → (X.w.setRow b new).heap[k]? = X.w.heap[k]?) ∧
        (∀ (c : Array Value) (e : TypeId) (f : Nat × Nat), X.w.heap[b]? = some (Obj.cells c e f) → ∃ c' : Array Value, (X.w.setRow b new).heap[b]? = some (Obj.cells c' e f) ∧ c'.size = c.size) := fun X b te cs new h1 h2 =>
      ⟨rfl, rfl, rfl, by rw [setRow_size]; exact Nat.le_refl _, fun k _ hk => setRow_other _ _ _ _ hk, fun c e f hc => ⟨new, setRow_heap _ _ _ _ _ _ hc, by rw [h1] at hc; cases hc; simp [h2]⟩⟩
    unfold storeK at h
    split at h
    · rename_i id path ea
      obtain ⟨B, hB, h⟩ := look_sound h
      split at h
      · rename_i t' K old
        obtain ⟨new, h, hfn, hs⟩ := setV_sound h
        refine ⟨_, _, h, opsem_write hB rfl rfl (.var ..) fun X ac at_ => ?_⟩
        have h1 := at_.opr a ma; rw [ea] at h1
        have hX := at_.sub _ _ hB
        obtain ⟨b, off, K', h2, h3, h4⟩ := (R1_ptr hX).1 ((RS.one (by simp) (by simp) (by simp) (by simp)).1 h1)
        obtain ⟨hfo, b', cs, h5, h6, h7⟩ := at_.ok.blk _ _ hX
        rw [h2] at h5; cases h5
        obtain ⟨vc, v1, v2, v3, v4⟩ := val X ac at_
        obtain ⟨off', K'', h8, h9, h10⟩ := hs hfo h7 v1
        rw [h3] at h8; cases h8
        have hle : off + vc.length ≤ cs.length := by rw [RA.length h9 v1, RA.length hfo h7]; exact koff_le h3
        obtain ⟨w1, w2, w3, w4, w5, w6⟩ := world X b t' cs (splice cs off vc).toArray h6 (by simp [splice_length hle])
        refine ⟨.skip, undef, b, _, ?_, .inr ⟨rfl, rfl⟩, h2, w1, w2, w3, w4, w5, w6, fun Y hY W H => ?_⟩
        · simp [execOp, ho, Instr.storeAt, h4, Instr.sureAddr, run_storeVar_at (i := i) (T.runSize hi) v2 v3 v4 h6 hle]
        · subst hY
          exact ⟨⟨hfn hfo, b, splice cs off vc, h2, setRow_heap _ _ _ _ _ _ h6, h10.evo W H at_.ok.fo⟩, RS.any _⟩
      · rename_i t' K xs
        -- into a row
        have fin : ∀ (i0 : Nat) (r : List Hop) (z : K.den), path = .idx i0 :: r → i0 < xs.length →
            (∀ (X : Cx) (y0 : K.den) (c vc : List Value), xs[i0]? = some y0 → RP X.F X.w K y0 c → RA X (ev x) vc → ∃ off K', koff K r = some (off, K') ∧ (ev x).fits K' = true ∧ RP X.F X.w K z (splice c off vc)) →
            OpSem P o ev sub fresh .any [(id, .row t' K (xs.set i0 z))] := fun i0 r z hp hlt hz => opsem_write hB rfl rfl (.row _ _ _ _ (by simp)) fun X ac at_ => by
          have h1 := at_.opr a ma; rw [ea] at h1
          have hX := at_.sub _ _ hB
          obtain ⟨b, i', r', off, K1, hp', _, h2, h3, h4⟩ := (R1_ptrR hX).1 ((RS.one (by simp) (by simp) (by simp) (by simp)).1 h1)
          rw [hp] at hp'
          simp only [List.cons.injEq, Hop.idx.injEq] at hp'
          obtain ⟨rfl, rfl⟩ := hp'
          obtain ⟨cur, cap, css, h5, h6, h7, h8, h9, h10, h11⟩ := row_cells (at_.ok.blk _ _ hX) h2
          obtain ⟨vc, v1, v2, v3, v4⟩ := val X ac at_
          obtain ⟨y0, hy0⟩ : ∃ y0, xs[i0]? = some y0 := ⟨_, List.getElem?_eq_getElem hlt⟩
          obtain ⟨c, hc, hrc⟩ := h9.get hy0
          obtain ⟨off', K'', q1, q2, q3⟩ := hz X y0 c vc hy0 hrc v1
          rw [h3] at q1; cases q1
          have hoff := koff_le h3
          have hvl := RA.length q2 v1
          have hfl : css.flatten.length = xs.length * K.size := by rw [flatten_length h9.lens, ← h9.length]
          have hcl : xs.length * K.size ≤ cur.size := by rw [h6]; exact Nat.mul_le_mul_right _ h7
          have hi1 : (i0 + 1) * K.size ≤ xs.length * K.size := Nat.mul_le_mul_right _ hlt
          rw [Nat.add_mul, Nat.one_mul] at hi1
          have hle : i0 * K.size + off + vc.length ≤ cur.toList.length := by simp only [Array.length_toList]; omega
          have hcell : X.w.heap[b]? = some (.cells cur.toList.toArray t' (0, 0)) := by simpa using h5
          obtain ⟨w1, w2, w3, w4, w5, w6⟩ := world X b t' cur.toList (splice cur.toList (i0 * K.size + off) vc).toArray hcell (by simp [splice_length hle])
          refine ⟨.skip, undef, b, _, ?_, .inr ⟨rfl, rfl⟩, h2, w1, w2, w3, w4, w5, w6, fun Y hY W H => ?_⟩
          · simp [execOp, ho, Instr.storeAt, h4, Instr.sureAddr, run_storeVar_at (i := i) (T.runSize hi) v2 v3 v4 hcell hle]
          · subst hY
            refine ⟨.inr ⟨b, _, cap, css.set i0 (splice c off vc), h2, setRow_heap _ _ _ _ _ _ h5, by simp [splice_length hle, h6], by simpa using h7, h8, ((h9.set i0 q3)).imp fun _ _ _ _ hr => RP.evo W at_.ok.fo hr, ?_⟩, RS.any _⟩
            rw [← flatten_splice h9.lens hc (by omega), h10]
            simp only [List.length_set]
            rw [take_splice (by omega) (by simpa using hcl)]
        split at h
        · rename_i i0 _
          obtain ⟨z, hx, hlt, h⟩ := setIn_sound h
          refine ⟨_, _, h, fin i0 [] z rfl hlt fun X y0 c vc _ hrc hv => ⟨0, K, koff_nil K, by rw [hx]; simp [AV.fits], ?_⟩⟩
          rw [hx] at hv
          rw [splice_all (by rw [RP.length hrc, RP.length (show RP X.F X.w K z vc from hv)])]
          exact hv
        · rename_i i0 hh r _
          obtain ⟨y, hy, h⟩ := Option.bind_eq_some_iff.1 h
          obtain ⟨y', h, _, hs⟩ := setK_sound h
          obtain ⟨z, rfl, hlt, h⟩ := setIn_sound h
          refine ⟨_, _, h, fin i0 (hh :: r) z rfl hlt fun X y0 c vc hy0 hrc hv => ?_⟩
          rw [hy] at hy0; cases hy0
          exact hs hrc hv
        · cases h
      · cases h
    · cases h
  · cases h

end
end Go.Ev
