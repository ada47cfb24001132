/-
  EVERY OPERATION; REGIONS IN TEXT ORDER.
-/
import Derived.Test.YtonpbpkkepacpaaFvS
set_option linter.all false
namespace Go.Ev
variable {A : Type}

section
variable {P : Program} {E : Env A} (T : TyOK P E) (fns : FnsOK P E) {o : Oper} {ev : Operand → AV} {sub : List (Nat × Blk)} {fresh : Nat} {k : Cont A} {out : A}
include T fns

theorem opK_sound (hev : ∀ g, ev (.global g) = glv E.gl g) (h : opK E o ev sub fresh k = some out) : ∃ v l, k v l = some out ∧ OpSem P o ev sub fresh v l := by
  unfold opK at h
  split at h
  · rename_i x ho; exact move_sound T (.inl ho) h
  · rename_i x ho; exact move_sound T (.inr ho) h
  · rename_i c a b ho; exact pick_sound ho h
  · rename_i t ho; exact alloc_sound T ho h
  · rename_i t x ho; exact box_sound ho h
  · rename_i t ps ho; exact build_sound T ho h
  · rename_i t n ps ho; exact buildSlice_sound T ho h
  · rename_i t a ho; exact load_op_sound T ho h
  · rename_i t a x ho; exact store_sound T ho h
  · rename_i x ho; exact nilCheck_sound ho h
  · rename_i op t x y yt ho; exact bin_sound T ho h
  · rename_i op t x ho; exact un_sound ho h
  · rename_i s d x ho; exact convert_sound T ho h
  · rename_i t l c ho; exact makeSlice_sound T ho h
  · rename_i t r ho; exact makeMap_sound T h ho
  · rename_i t x lo hi ho; exact slice_sound T ho h
  · rename_i t x f ho; exact fieldAddr_sound T ho h
  · rename_i t x f ho; exact field_sound T ho h
  · rename_i t x ix ho; exact indexAddr_sound T ho h
  · rename_i t x ix ho; exact index_sound T ho h
  · rename_i t m x ok ho; exact lookup_sound T ho h
  · rename_i t m x y ho; exact mapUpdate_sound T (.inl ho) h
  · rename_i t m x y ho; exact mapUpdate_sound T (.inr ho) h
  · rename_i x i ho; exact extract_sound ho h
  · rename_i c ho
    split at h
    · rename_i f hc
      split at h
      · rename_i hsz; exact call_sound fns hev ho hc hsz h
      · cases h
    · rename_i hc
      split at h
      · rename_i x t ts ha ht; exact len_sound T ho hc ha ht h
      · cases h
    · rename_i hc
      split at h
      · rename_i s x t t' ha ht
        split at h
        · rename_i htt; subst htt
          exact append_sound T ho hc ha ht rfl h
        · cases h
      · cases h
    · rename_i hc
      split at h
      · rename_i d x t t' ha ht
        exact copy_sound T ho hc ha ht h
      · cases h
    · rename_i hc
      split at h
      · rename_i x r ha
        exact minmax_sound ho hc ha (.inl ⟨rfl, rfl⟩) h
      · cases h
    · rename_i hc
      split at h
      · rename_i x r ha
        exact minmax_sound ho hc ha (.inr ⟨rfl, rfl⟩) h
      · cases h
    · cases h
  · cases h
end

-- ------------------------------------------------------------ a region's operations, one behind the other

/-- An operation, in the state in which it is come to; 'on': its guard lets it. -/
structure Stp where
  o : Oper
  on : Bool
  s : St
  v : AV
  l : List (Nat × Blk)

def Stp.next (p : Stp) : St := if p.on then { (p.s.put p.o.dst p.v) with hp := asg p.s.hp p.l } else p.s.put p.o.dst (.tup [])
def Stp.fp (p : Stp) : FP := if p.on then ⟨(p.s.sub p.o).map (·.1), p.l.map (·.1)⟩ else ⟨[], []⟩

def GuardOK (ops : Array Oper) (o : Oper) (s : St) (on : Bool) : Prop :=
  match o.guard with
  | none => on = true
  | some (j, want) => ∃ g, (ops[j]?).bind (·.dst) = some g ∧ ((∃ b, s.tm[g]? = some (.p .bool b) ∧ on = decide (b = want)) ∨ (s.tm[g]? = some (.tup []) ∧ on = false))

inductive Chain (P : Program) (gl : GL) (ops : Array Oper) : List Oper → St → List Stp → St → Prop where
  | nil (s : St) : Chain P gl ops [] s [] s
  | cons {o : Oper} {r : List Oper} {s s' : St} {p : Stp} {ps : List Stp} (h1 : p.o = o) (h2 : p.s = s) (h3 : GuardOK ops o s p.on)
      (h4 : p.on = true → OpSem P o (St.ev gl s) (s.sub o) s.hp.length p.v p.l) (h5 : Chain P gl ops r p.next ps s') : Chain P gl ops (o :: r) s (p :: ps) s'

theorem chain_m {P : Program} {gl : GL} {ops : Array Oper} : ∀ {os : List Oper} {s s' : St} {ps : List Stp}, Chain P gl ops os s ps s' → s'.m = s.m
  | _, _, _, _, .nil s => rfl
  | _, _, _, _, @Chain.cons _ _ _ o r s s' p ps h1 h2 h3 h4 h5 => by
    subst h1; subst h2
    rw [chain_m h5]
    unfold Stp.next
    have e : ∀ v, (p.s.put p.o.dst v).m = p.s.m := fun v => by cases p.o.dst <;> rfl
    split <;> exact e _

theorem St.put_same {s : St} {g : Nat} {v : AV} (h : s.tm[g]? = some v) : s.put (some g) v = s := by
  obtain ⟨hl, hv⟩ := List.getElem?_eq_some_iff.1 h
  simp only [St.put]
  rw [← hv, List.set_getElem_self]

section
variable {P : Program} {E : Env A} (T : TyOK P E) (fns : FnsOK P E) {out : A}
include T fns

theorem opsK_sound {ops : Array Oper} : ∀ {os : List Oper} {s : St} {fps : List FP} {k : St → List FP → Option A}, opsK E ops os s fps k = some out →
    ∃ ps s', Chain P E.gl ops os s ps s' ∧ k s' ((ps.map Stp.fp).reverse ++ fps) = some out
  | [], s, fps, k, h => ⟨[], s, .nil s, by simpa [opsK] using h⟩
  | o :: r, s, fps, k, h => by
    simp only [opsK] at h
    have step : ∀ {on : Bool} (s : St), GuardOK ops o s true → execK E o s fps (fun s' fps' => opsK E ops r s' fps' k) = some out →
        ∃ ps s', Chain P E.gl ops (o :: r) s ps s' ∧ k s' ((ps.map Stp.fp).reverse ++ fps) = some out := fun {on} s hg h => by
      unfold execK at h
      obtain ⟨v, l, h, hs⟩ := opK_sound T fns (fun g => rfl) h
      obtain ⟨ps, s', hc, hk⟩ := opsK_sound h
      refine ⟨⟨o, true, s, v, l⟩ :: ps, s', .cons rfl rfl hg (fun _ => hs) hc, ?_⟩
      simpa [Stp.fp] using hk
    have skip : ∀ (s : St), GuardOK ops o s false → opsK E ops r (s.put o.dst (.tup [])) (⟨[], []⟩ :: fps) k = some out →
        ∃ ps s', Chain P E.gl ops (o :: r) s ps s' ∧ k s' ((ps.map Stp.fp).reverse ++ fps) = some out := fun s hg h => by
      obtain ⟨ps, s', hc, hk⟩ := opsK_sound h
      refine ⟨⟨o, false, s, .any, []⟩ :: ps, s', .cons rfl rfl hg (fun h => nomatch h) hc, ?_⟩
      simpa [Stp.fp] using hk
    split at h
    · rename_i hg
      exact step (on := true) s (by simp [GuardOK, hg]) h
    · rename_i j want hg
      split at h
      · cases h
      · rename_i g hgd
        split at h
        · rename_i b hb
          have key : (if b = want then execK E o (s.put (some g) (.p .bool b)) fps (fun s' fps' => opsK E ops r s' fps' k) else opsK E ops r ((s.put (some g) (.p .bool b)).put o.dst (.tup [])) (⟨[], []⟩ :: fps) k) = some out := by
            cases b <;> simpa using h
          rw [St.put_same hb] at key
          split at key
          · rename_i hbw
            exact step (on := true) s (by simp only [GuardOK, hg]; exact ⟨g, hgd, .inl ⟨b, hb, by simp [hbw]⟩⟩) key
          · rename_i hbw
            exact skip s (by simp only [GuardOK, hg]; exact ⟨g, hgd, .inl ⟨b, hb, by simp [hbw]⟩⟩) key
        · rename_i hb
          exact skip s (by simp only [GuardOK, hg]; exact ⟨g, hgd, .inr ⟨hb, trivial⟩⟩) h
        · cases h
end

-- ------------------------------------------------------------ in text order

theorem lookup_filterMap {hp : List Blk} : ∀ {l : List Nat} {id : Nat} {b : Blk}, (l.filterMap fun id => match hp[id]? with | some Blk.free => none | some b => some (id, b) | none => none).lookup id = some b → hp[id]? = some b ∧ b ≠ .free
  | [], _, _, h => by simp at h
  | i :: l, id, b, h => by
    rw [List.filterMap_cons] at h
    cases hi : hp[i]? with
    | none => rw [hi] at h; exact lookup_filterMap h
    | some c =>
      rw [hi] at h
      by_cases hc : c = .free
      · subst hc; exact lookup_filterMap h
      · have h : (((i, c) :: l.filterMap fun id => match hp[id]? with | some Blk.free => none | some b => some (id, b) | none => none) : List (Nat × Blk)).lookup id = some b := by
          cases c <;> first | exact h | exact absurd rfl hc
        simp only [List.lookup_cons] at h
        by_cases he : id = i
        · subst he; simp at h; rw [← h]; exact ⟨hi, hc⟩
        · rw [show (id == i) = false by simpa using he] at h; exact lookup_filterMap h

theorem St.sub_get {s : St} {o : Oper} {id : Nat} {b : Blk} (h : (s.sub o).lookup id = some b) : s.hp[id]? = some b := (lookup_filterMap h).1
theorem St.sub_free {s : St} {o : Oper} {id : Nat} {b : Blk} (h : (s.sub o).lookup id = some b) : b ≠ .free := (lookup_filterMap h).2

theorem Rel.put {gl : GL} {X : Cx} {s : St} {a : Act} (h : Rel gl X s a) {d : Option Tmp} {v : AV} {u : Value} (hr : RS X v u) : Rel gl X (s.put d v) (a.put d u) := by
  cases d with
  | none => exact h
  | some d =>
    refine ⟨h.glo, h.defers, by simp [St.put, Act.put, h.size], fun i av hi => ?_, h.hp, h.ok⟩
    simp only [St.put, Act.put] at hi ⊢
    by_cases hd : d = i
    · subst hd
      rw [List.getElem?_set] at hi
      simp only [if_true] at hi
      split at hi
      · rename_i hl
        cases hi
        refine ⟨u, ?_, hr⟩
        rw [Array.getElem?_setIfInBounds_self_of_lt (by rw [h.size]; exact hl)]
      · cases hi
    · rw [List.getElem?_set_ne hd] at hi
      rw [Array.getElem?_setIfInBounds_ne hd]
      exact h.tm i av hi

theorem Rel.step {gl : GL} {X Y : Cx} {s : St} {a : Act} {l : List (Nat × Blk)} (h : Rel gl X s a) (hp : Y.hp = asg X.hp l) (ok : Ok Y) (W : WEvo X Y) (H : HEvo X Y) : Rel gl Y { s with hp := asg s.hp l } a :=
  ⟨h.glo.evo W h.ok.fo, h.defers, h.size, fun i av hi => by obtain ⟨v, h1, h2⟩ := h.tm i av hi; exact ⟨v, h1, h2.evo W H h.ok.fo⟩, by rw [hp, h.hp], ok⟩

theorem RS.undef {X : Cx} : RS X (.tup []) undef := ⟨#[], rfl, .nil⟩

theorem GuardOK.wanted {gl : GL} {X : Cx} {ops : Array Oper} {o : Oper} {s : St} {on : Bool} {a : Act} (h : GuardOK ops o s on) (hr : Rel gl X s a) : Region.wanted o (yielded ops a.tmps) = on := by
  unfold GuardOK at h
  unfold Region.wanted
  cases hg : o.guard with
  | none => rw [hg] at h; exact h.symm
  | some q =>
    obtain ⟨j, want⟩ := q
    rw [hg] at h
    obtain ⟨g, h1, ⟨b, h2, h3⟩ | ⟨h2, h3⟩⟩ := h
    · obtain ⟨v, h4, h5⟩ := hr.tm g _ h2
      rw [RS.bool] at h5
      subst h5
      simp only [yielded, h1, Option.bind_some, h4, h3]
      cases b <;> cases want <;> rfl
    · obtain ⟨v, h4, us, h5, h6⟩ := hr.tm g _ h2
      subst h5
      simp only [yielded, h1, Option.bind_some, h4, h3]
      rfl

theorem chain_text {P : Program} {gl : GL} {ops : Array Oper} {Q : Exit → Act → World → Prop} : ∀ {os : List Oper} {s s' : St} {ps : List Stp}, Chain P gl ops os s ps s' → ∀ {i : Nat}, ops.toList.drop i = os → ∀ {X : Cx} {a : Act}, Rel gl X s a →
    (∀ (Y : Cx) (a' : Act), Rel gl Y s' a' → WEvo X Y → HEvo X Y → Q .normal a' Y.w) → wpOps P ops Q (List.range' i os.length) a X.w
  | _, _, _, _, .nil s, i, _, X, a, hr, hq => hq X a hr (.refl X) (.refl X)
  | _, _, _, _, @Chain.cons _ _ _ o r s s' p ps h1 h2 h3 h4 h5, i, hd, X, a, hr, hq => by
    subst h1; subst h2
    have hi : ops[i]? = some p.o := by
      have := congrArg (·[0]?) hd
      simpa using this
    have hd' : ops.toList.drop (i + 1) = r := by
      have := congrArg (List.drop 1) hd
      simpa [Nat.add_comm] using this
    rw [List.length_cons, List.range'_succ]
    simp only [wpOps, hi]
    rw [h3.wanted hr]
    cases hon : p.on with
    | false =>
      simp only [Bool.false_eq_true, if_false]
      have hn : p.next = p.s.put p.o.dst (.tup []) := by simp [Stp.next, hon]
      rw [hn] at h5
      exact chain_text h5 hd' (hr.put RS.undef) hq
    | true =>
      simp only [if_true]
      left
      refine (h4 hon).2 X a _ Q ⟨fun x _ => hr.ev x, hr.ok, hr.glo, fun id b hb => by rw [hr.hp]; exact St.sub_get hb⟩ (fun q _ hq => .inl ?_) fun Y u hp hu ok W H => ?_
      · rw [hr.hp]; exact List.getElem?_eq_none hq
      · have hn : p.next = { (p.s.put p.o.dst p.v) with hp := asg p.s.hp p.l } := by simp [Stp.next, hon]
        rw [hn] at h5
        have h6 := (hr.step hp ok W H).put (d := p.o.dst) hu
        refine chain_text h5 hd' (X := Y) (a := a.put p.o.dst u) ?_ fun Z a' hz WZ HZ => hq Z a' hz (W.trans WZ) (H.trans HZ)
        cases hdst : p.o.dst <;> rw [hdst] at h6 <;> exact h6

end Go.Ev
