/-
  CONTEXTS: what a world holds of an abstract heap; how contexts go on, and what then stays.
-/
import Derived.Test.YtonpbpkkepacpaaFvC
set_option linter.all false
namespace Go.Ev

inductive BlkEvo : Blk → Blk → Prop where
  | gone (b : Blk) : BlkEvo b .gone
  | var (t : TypeId) (K : Kind) (v v' : AV) : BlkEvo (.var t K v) (.var t K v')
  | row (e : TypeId) (K : Kind) (xs xs' : List K.den) (h : xs'.length = xs.length) : BlkEvo (.row e K xs) (.row e K xs')
  | map (KK KV : Kind) (es es' : List (KK.den × KV.den)) : BlkEvo (.map KK KV es) (.map KK KV es')

theorem BlkEvo.refl {b : Blk} (h : b ≠ .free) : BlkEvo b b := by
  cases b with
  | var t K v => exact .var ..
  | row e K xs => exact .row _ _ _ _ rfl
  | map KK KV es => exact .map ..
  | gone => exact .gone _
  | free => exact absurd rfl h

theorem BlkEvo.trans {a b c : Blk} (h : BlkEvo a b) (h' : BlkEvo b c) : BlkEvo a c := by
  cases h' with
  | gone => exact .gone _
  | var t K v v' => cases h with | var => exact .var ..
  | row e K xs xs' hl => cases h with | row _ _ ys _ hl' => exact .row _ _ _ _ (hl.trans hl')
  | map => cases h with | map => exact .map ..

theorem BlkEvo.not_free {a b : Blk} (h : BlkEvo a b) : b ≠ .free := by cases h <;> simp

def RB (X : Cx) (id : Nat) : Blk → Prop
  | .var t K v => v.fits K = true ∧ ∃ b cs, X.ρ id = some b ∧ X.w.heap[b]? = some (.cells (List.toArray cs) t (0, 0)) ∧ RA X v cs
  | .row e K xs => (X.ρ id = none ∧ xs.length = 0) ∨ ∃ b cur cap css, X.ρ id = some b ∧ X.w.heap[b]? = some (.cells cur e (0, 0)) ∧ cur.size = cap * K.size ∧
      xs.length ≤ cap ∧ cap ≤ maxLen ∧ All2 (RP X.F X.w K) xs css ∧ css.flatten = cur.toList.take (xs.length * K.size)
  | .map KK KV es => ∃ b mes clock, X.ρ id = some b ∧ X.w.heap[b]? = some (.map mes clock) ∧ All2 (fun e (me : MapEntry) => RS0 X (.p KK e.1) me.key ∧ RS0 X (.p KV e.2) me.val) es mes.toList
  | _ => True

structure Ok (X : Cx) : Prop where
  blk : ∀ (id : Nat) (b : Blk), X.hp[id]? = some b → RB X id b
  inj : ∀ (id id' b : Nat) (c c' : Blk), X.hp[id]? = some c → c.live = true → X.hp[id']? = some c' → c'.live = true → X.ρ id = some b → X.ρ id' = some b → id = id'
  fo : ∀ b, X.F b → b < X.w.heap.size ∧ ¬ X.Own b

/-- How the world goes on. -/
structure WEvo (X Y : Cx) : Prop where
  os : Y.w.os = X.w.os
  tape : Y.w.tape = X.w.tape
  output : Y.w.output = X.w.output
  size : X.w.heap.size ≤ Y.w.heap.size
  shape : ∀ (b : Nat) (c : Array Value) (e : TypeId) (f : Nat × Nat), X.w.heap[b]? = some (Obj.cells c e f) → ∃ c' : Array Value, Y.w.heap[b]? = some (Obj.cells c' e f) ∧ c'.size = c.size
  keep : ∀ b, b < X.w.heap.size → ¬ X.Own b → Y.w.heap[b]? = X.w.heap[b]?
  own : ∀ b, b < X.w.heap.size → Y.Own b → X.Own b
  fmono : ∀ b, X.F b → Y.F b
  fnew : ∀ b, Y.F b → X.F b ∨ X.Own b ∨ X.w.heap.size ≤ b

structure HEvo (X Y : Cx) : Prop where
  hp : ∀ (id : Nat) (b : Blk), X.hp[id]? = some b → b ≠ .free → ∃ b', Y.hp[id]? = some b' ∧ BlkEvo b b'
  ρ : ∀ (id : Nat) (b : Blk), X.hp[id]? = some b → b ≠ .free → Y.ρ id = X.ρ id

/-- The first blocks keep their numbers. -/
structure PEvo (m : Nat) (X Y : Cx) : Prop where
  hp : ∀ (id : Nat) (b : Blk), id < m → X.hp[id]? = some b → b ≠ .free → ∃ b', Y.hp[id]? = some b' ∧ BlkEvo b b'
  ρ : ∀ (id : Nat) (b : Blk), id < m → X.hp[id]? = some b → b ≠ .free → Y.ρ id = X.ρ id

theorem HEvo.pevo {X Y : Cx} (h : HEvo X Y) (m : Nat) : PEvo m X Y := ⟨fun id b _ hb hn => h.hp id b hb hn, fun id b _ hb hn => h.ρ id b hb hn⟩

theorem PEvo.refl (m : Nat) (X : Cx) : PEvo m X X := ⟨fun _ b _ h hb => ⟨b, h, .refl hb⟩, fun _ _ _ _ _ => rfl⟩

theorem PEvo.trans {m : Nat} {X Y Z : Cx} (h : PEvo m X Y) (k : PEvo m Y Z) : PEvo m X Z where
  hp := fun id b hm hb hn => by
    obtain ⟨b', h1, h2⟩ := h.hp id b hm hb hn
    obtain ⟨b'', h3, h4⟩ := k.hp id b' hm h1 h2.not_free
    exact ⟨b'', h3, h2.trans h4⟩
  ρ := fun id b hm hb hn => by
    obtain ⟨b', h1, h2⟩ := h.hp id b hm hb hn
    rw [k.ρ id b' hm h1 h2.not_free, h.ρ id b hm hb hn]

theorem WEvo.refl (X : Cx) : WEvo X X := ⟨rfl, rfl, rfl, Nat.le_refl _, fun _ c _ _ h => ⟨c, h, rfl⟩, fun _ _ _ => rfl, fun _ _ h => h, fun _ h => h, fun _ h => .inl h⟩

theorem WEvo.trans {X Y Z : Cx} (h : WEvo X Y) (k : WEvo Y Z) : WEvo X Z where
  os := k.os.trans h.os
  tape := k.tape.trans h.tape
  output := k.output.trans h.output
  size := Nat.le_trans h.size k.size
  shape := fun b c e f hb => by
    obtain ⟨c', h1, h2⟩ := h.shape b c e f hb
    obtain ⟨c'', h3, h4⟩ := k.shape b c' e f h1
    exact ⟨c'', h3, h4.trans h2⟩
  keep := fun b hb ho => by
    rw [k.keep b (Nat.lt_of_lt_of_le hb h.size) (fun ho' => ho (h.own b hb ho')), h.keep b hb ho]
  own := fun b hb ho => h.own b hb (k.own b (Nat.lt_of_lt_of_le hb h.size) ho)
  fmono := fun b hb => k.fmono b (h.fmono b hb)
  fnew := fun b hb => by
    rcases k.fnew b hb with h1 | h1 | h1
    · exact h.fnew b h1
    · rcases Nat.lt_or_ge b X.w.heap.size with h2 | h2
      · exact .inr (.inl (h.own b h2 h1))
      · exact .inr (.inr h2)
    · exact .inr (.inr (Nat.le_trans h.size h1))

theorem HEvo.refl (X : Cx) : HEvo X X := ⟨fun _ b h hb => ⟨b, h, .refl hb⟩, fun _ _ _ _ => rfl⟩

theorem HEvo.trans {X Y Z : Cx} (h : HEvo X Y) (k : HEvo Y Z) : HEvo X Z where
  hp := fun id b hb hn => by
    obtain ⟨b', h1, h2⟩ := h.hp id b hb hn
    obtain ⟨b'', h3, h4⟩ := k.hp id b' h1 h2.not_free
    exact ⟨b'', h3, h2.trans h4⟩
  ρ := fun id b hb hn => by
    obtain ⟨b', h1, h2⟩ := h.hp id b hb hn
    rw [k.ρ id b' h1 h2.not_free, h.ρ id b hb hn]

section
variable {X Y : Cx}

theorem WEvo.foreign (h : WEvo X Y) (fo : ∀ b, X.F b → b < X.w.heap.size ∧ ¬ X.Own b) : ∀ b, X.F b → Y.w.heap[b]? = X.w.heap[b]? := fun b hb => h.keep b (fo b hb).1 (fo b hb).2

theorem RP.evo (h : WEvo X Y) (fo : ∀ b, X.F b → b < X.w.heap.size ∧ ¬ X.Own b) {K : Kind} {x : K.den} {cs : List Value} (hr : RP X.F X.w K x cs) : RP Y.F Y.w K x cs :=
  hr.mono h.fmono (h.foreign fo)

theorem R1.evo (h : WEvo X Y) (k : HEvo X Y) (fo : ∀ b, X.F b → b < X.w.heap.size ∧ ¬ X.Own b) {av : AV} {v : Value} (hr : R1 X av v) : R1 Y av v := by
  have ho := hr.one
  cases av with
  | row id =>
    simp only [R1] at hr ⊢
    split at hr
    · rename_i e K xs heq
      obtain ⟨b', h1, h2⟩ := k.hp id _ heq (by simp)
      have h3 := k.ρ id _ heq (by simp)
      rw [h1]
      cases h2 with
      | gone => exact ho
      | row _ _ _ xs' hl =>
        simp only [h3, hl]
        rcases hr with hr | ⟨b, cap, cur, a1, a2, a3, a4, a7⟩
        · exact .inl hr
        · obtain ⟨c', a5, a6⟩ := h.shape b cur e _ a3
          exact .inr ⟨b, cap, c', a1, a2, a5, a6.trans a4, a7⟩
    · rename_i heq
      obtain ⟨b', h1, h2⟩ := k.hp id _ heq (by simp)
      rw [h1]
      cases h2; exact ho
    · exact hr.elim
  | sub id lo len =>
    simp only [R1] at hr ⊢
    split at hr
    · rename_i e K xs heq
      obtain ⟨b', h1, h2⟩ := k.hp id _ heq (by simp)
      have h3 := k.ρ id _ heq (by simp)
      rw [h1]
      cases h2 with
      | gone => exact ho
      | row _ _ _ xs' hl => simp only [h3, hl]; exact hr
    · rename_i heq
      obtain ⟨b', h1, h2⟩ := k.hp id _ heq (by simp)
      rw [h1]
      cases h2; exact ho
    · exact hr.elim
  | ptr id path =>
    simp only [R1] at hr ⊢
    split at hr
    · rename_i e K xs heq
      obtain ⟨b', h1, h2⟩ := k.hp id _ heq (by simp)
      have h3 := k.ρ id _ heq (by simp)
      rw [h1]
      cases h2 with
      | gone => exact ho
      | var => simp only [h3]; exact hr
    · rename_i e K xs heq
      obtain ⟨b', h1, h2⟩ := k.hp id _ heq (by simp)
      have h3 := k.ρ id _ heq (by simp)
      rw [h1]
      cases h2 with
      | gone => exact ho
      | row _ _ _ xs' hl => simp only [h3, hl]; exact hr
    · rename_i heq
      obtain ⟨b', h1, h2⟩ := k.hp id _ heq (by simp)
      rw [h1]
      cases h2; exact ho
    · exact hr.elim
  | slc id path lo len =>
    simp only [R1] at hr ⊢
    split at hr
    · rename_i e K xs heq
      obtain ⟨b', h1, h2⟩ := k.hp id _ heq (by simp)
      have h3 := k.ρ id _ heq (by simp)
      rw [h1]
      cases h2 with
      | gone => exact ho
      | var => simp only [h3]; exact hr
    · rename_i heq
      obtain ⟨b', h1, h2⟩ := k.hp id _ heq (by simp)
      rw [h1]
      cases h2; exact ho
    · exact hr.elim
  | mp id =>
    simp only [R1] at hr ⊢
    split at hr
    · rename_i e K xs heq
      obtain ⟨b', h1, h2⟩ := k.hp id _ heq (by simp)
      have h3 := k.ρ id _ heq (by simp)
      rw [h1]
      cases h2 with
      | gone => exact ho
      | map => simp only [h3]; exact hr
    · rename_i heq
      obtain ⟨b', h1, h2⟩ := k.hp id _ heq (by simp)
      rw [h1]
      cases h2; exact ho
    · exact hr.elim
  | nilp => exact hr
  | vp K x =>
    obtain ⟨ad, cs, rfl, hf, h1, h2⟩ := hr
    refine ⟨ad, cs, rfl, h.fmono _ hf, h1.evo h fo, fun j u hu => ?_⟩
    rw [cell?_same (w := X.w) (w' := Y.w) (by rw [add_block]; exact h.foreign fo _ hf)]
    exact h2 j u hu
  | any => exact hr
  | p K x => exact hr.elim
  | pr a b => exact hr.elim
  | tup vs => exact hr.elim

theorem RA.evo (h : WEvo X Y) (k : HEvo X Y) (fo : ∀ b, X.F b → b < X.w.heap.size ∧ ¬ X.Own b) : ∀ {av : AV} {cs : List Value}, RA X av cs → RA Y av cs
  | .p K x, cs, hr => RP.evo h fo hr
  | .pr a b, cs, hr => by
    obtain ⟨c1, c2, rfl, h1, h2⟩ := hr
    exact ⟨c1, c2, rfl, RA.evo h k fo h1, RA.evo h k fo h2⟩
  | .any, cs, hr => by obtain ⟨v, rfl, h1⟩ := hr; exact ⟨v, rfl, h1.evo h k fo⟩
  | .row _, cs, hr => by obtain ⟨v, rfl, h1⟩ := hr; exact ⟨v, rfl, h1.evo h k fo⟩
  | .sub _ _ _, cs, hr => by obtain ⟨v, rfl, h1⟩ := hr; exact ⟨v, rfl, h1.evo h k fo⟩
  | .ptr _ _, cs, hr => by obtain ⟨v, rfl, h1⟩ := hr; exact ⟨v, rfl, h1.evo h k fo⟩
  | .vp _ _, cs, hr => by obtain ⟨v, rfl, h1⟩ := hr; exact ⟨v, rfl, h1.evo h k fo⟩
  | .slc _ _ _ _, cs, hr => by obtain ⟨v, rfl, h1⟩ := hr; exact ⟨v, rfl, h1.evo h k fo⟩
  | .mp _, cs, hr => by obtain ⟨v, rfl, h1⟩ := hr; exact ⟨v, rfl, h1.evo h k fo⟩
  | .nilp, cs, hr => by obtain ⟨v, rfl, h1⟩ := hr; exact ⟨v, rfl, h1.evo h k fo⟩
  | .tup _, cs, hr => by obtain ⟨v, rfl, h1⟩ := hr; exact ⟨v, rfl, h1.evo h k fo⟩

theorem RS0.evo (h : WEvo X Y) (k : HEvo X Y) (fo : ∀ b, X.F b → b < X.w.heap.size ∧ ¬ X.Own b) {av : AV} {v : Value} (hr : RS0 X av v) : RS0 Y av v := by
  rcases hr with hr | ⟨cs, h1, h2⟩
  · exact .inl hr
  · exact .inr ⟨cs, h1.evo h k fo, h2⟩

theorem RS.evo (h : WEvo X Y) (k : HEvo X Y) (fo : ∀ b, X.F b → b < X.w.heap.size ∧ ¬ X.Own b) {av : AV} {v : Value} (hr : RS X av v) : RS Y av v := by
  cases av with
  | tup vs =>
    obtain ⟨us, rfl, h1⟩ := hr
    exact ⟨us, rfl, h1.imp fun _ _ _ _ hr => hr.evo h k fo⟩
  | _ => exact RS0.evo h k fo hr

/-- A block of ours that nobody wrote. -/
theorem RB.evo (h : WEvo X Y) (k : HEvo X Y) (fo : ∀ b, X.F b → b < X.w.heap.size ∧ ¬ X.Own b) {id : Nat} {b : Blk} (hρ : Y.ρ id = X.ρ id)
    (hw : b.live = true → ∀ n, X.ρ id = some n → Y.w.heap[n]? = X.w.heap[n]?) (hr : RB X id b) : RB Y id b := by
  cases b with
  | var t K v =>
    obtain ⟨h1, n, cs, h2, h3, h4⟩ := hr
    exact ⟨h1, n, cs, by rw [hρ]; exact h2, by rw [hw rfl n h2]; exact h3, h4.evo h k fo⟩
  | row e K xs =>
    rcases hr with ⟨h1, h2⟩ | ⟨n, cur, cap, css, h1, h2, h3, h4, h5, h6, h7⟩
    · exact .inl ⟨by rw [hρ]; exact h1, h2⟩
    · exact .inr ⟨n, cur, cap, css, by rw [hρ]; exact h1, by rw [hw rfl n h1]; exact h2, h3, h4, h5, h6.imp fun _ _ _ _ hr => RP.evo h fo hr, h7⟩
  | map KK KV es =>
    obtain ⟨n, mes, clock, h1, h2, h3⟩ := hr
    exact ⟨n, mes, clock, by rw [hρ]; exact h1, by rw [hw rfl n h1]; exact h2, h3.imp fun _ _ _ _ hr => ⟨hr.1.evo h k fo, hr.2.evo h k fo⟩⟩
  | gone => trivial
  | free => trivial
end

/-- An own block lies in the heap. -/
theorem Ok.lt {X : Cx} (h : Ok X) {b : Nat} (ho : X.Own b) : b < X.w.heap.size := by
  obtain ⟨id, blk, h1, h2, h3⟩ := ho
  have hb := h.blk id blk h1
  have key : ∀ o, X.w.heap[b]? = some o → b < X.w.heap.size := fun o ho => (Array.getElem?_eq_some_iff.1 ho).1
  cases blk with
  | var t K v => obtain ⟨_, n, cs, h4, h5, _⟩ := hb; rw [h3] at h4; cases h4; exact key _ h5
  | row e K xs =>
    rcases hb with ⟨h4, _⟩ | ⟨n, cur, cap, css, h4, h5, _⟩
    · rw [h3] at h4; cases h4
    · rw [h3] at h4; cases h4; exact key _ h5
  | map KK KV es => obtain ⟨n, mes, clock, h4, h5, _⟩ := hb; rw [h3] at h4; cases h4; exact key _ h5
  | gone => simp [Blk.live] at h2
  | free => simp [Blk.live] at h2

/-- The package-level variables hold what is said of them. -/
def GOK (gl : GL) (X : Cx) : Prop := ∀ g, RS X (glv gl g) (.pointer (some ⟨g, 0, none⟩))

theorem GOK.evo {gl : GL} {X Y : Cx} (W : WEvo X Y) (fo : ∀ b, X.F b → b < X.w.heap.size ∧ ¬ X.Own b) (h : GOK gl X) : GOK gl Y := fun g => by
  have h := h g
  unfold glv at h ⊢
  split
  · rename_i q hq
    rw [hq] at h
    simp only at h
    rcases h with h | ⟨cs, h1, h2⟩
    · exact .inl h
    · obtain ⟨v, rfl, ad, cs, rfl, hF, g1, g2⟩ := h1
      refine .inr ⟨_, ⟨_, rfl, ad, cs, rfl, W.fmono _ hF, g1.evo W fo, fun j u hu => ?_⟩, h2⟩
      rw [cell?_same (w := X.w) (w' := Y.w) (by rw [add_block]; exact W.foreign fo _ hF)]
      exact g2 j u hu
  · exact .inl rfl


/-- A state, and the machine's frame and world. -/
structure Rel (gl : GL) (X : Cx) (s : St) (a : Act) : Prop where
  glo : GOK gl X
  defers : a.defers = []
  size : a.tmps.size = s.tm.length
  tm : ∀ (i : Nat) (av : AV), s.tm[i]? = some av → ∃ v, a.tmps[i]? = some v ∧ RS X av v
  hp : X.hp = s.hp
  ok : Ok X

theorem RS.any {X : Cx} (v : Value) : RS X .any v := .inl rfl

theorem RS.int {X : Cx} {k : IntKind} {n : Int} {v : Value} : RS X (.p (.int k) n) v ↔ v = .int k n := by
  constructor
  · rintro (h | ⟨cs, h1, ⟨h, _⟩ | ⟨_, h⟩⟩)
    · cases h
    · cases h
    · subst h; simpa [RA, RP] using h1
  · rintro rfl; exact .inr ⟨_, rfl, .inr ⟨rfl, rfl⟩⟩

theorem RS.bool {X : Cx} {b : Bool} {v : Value} : RS X (.p .bool b) v ↔ v = .bool b := by
  constructor
  · rintro (h | ⟨cs, h1, ⟨h, _⟩ | ⟨_, h⟩⟩)
    · cases h
    · cases h
    · subst h; simpa [RA, RP] using h1
  · rintro rfl; exact .inr ⟨_, rfl, .inr ⟨rfl, rfl⟩⟩

theorem RS.str {X : Cx} {s : ByteArray} {v : Value} : RS X (.p .str s) v ↔ v = .string s := by
  constructor
  · rintro (h | ⟨cs, h1, ⟨h, _⟩ | ⟨_, h⟩⟩)
    · cases h
    · cases h
    · subst h; simpa [RA, RP] using h1
  · rintro rfl; exact .inr ⟨_, rfl, .inr ⟨rfl, rfl⟩⟩

theorem RS.one {X : Cx} {av : AV} {v : Value} (h1 : ∀ K x, av ≠ .p K x) (h2 : ∀ a b, av ≠ .pr a b) (h3 : av ≠ .any) (h4 : ∀ vs, av ≠ .tup vs) : RS X av v ↔ R1 X av v := by
  constructor
  · intro h
    have h : RS0 X av v := by cases av <;> first | exact h | exact absurd rfl (h4 _)
    rcases h with h | ⟨cs, h5, ⟨h, _⟩ | ⟨_, h⟩⟩
    · cases av <;> first | exact absurd rfl h3 | cases h
    · cases av <;> first | exact absurd rfl (h1 _ _) | exact absurd rfl (h2 _ _) | cases h
    · subst h
      obtain ⟨u, hu, h6⟩ := (RA.single h1 h2).1 h5
      simp at hu; subst hu; exact h6
  · intro h
    have : RS0 X av v := .inr ⟨[v], (RA.single h1 h2).2 ⟨v, rfl, h⟩, .inr ⟨by cases av <;> first | rfl | exact absurd rfl (h1 _ _) | exact absurd rfl (h2 _ _), rfl⟩⟩
    cases av <;> first | exact this | exact absurd rfl (h4 _)

theorem Rel.eval {gl : GL} {X : Cx} {s : St} {a : Act} (h : Rel gl X s a) (t : Tmp) : RS X (s.tm.getD t .any) (a.eval (.tmp t)) := by
  show RS X _ (a.tmps.getD t undef)
  cases ht : s.tm[t]? with
  | none => simp [List.getD, ht]; exact RS.any _
  | some av =>
    obtain ⟨v, h1, h2⟩ := h.tm t av ht
    have e1 : s.tm.getD t .any = av := by simp [List.getD, ht]
    have e2 : a.tmps.getD t undef = v := by simp [h1]
    rw [e1, e2]; exact h2

theorem ofValue_RS {X : Cx} (v : Value) : RS X (ofValue v) v := by
  unfold ofValue
  split
  · exact RS.int.2 rfl
  · exact RS.bool.2 rfl
  · exact RS.str.2 rfl
  · exact (RS.one (by simp) (by simp) (by simp) (by simp)).2 rfl
  · exact RS.any _

theorem Rel.ev {gl : GL} {X : Cx} {s : St} {a : Act} (h : Rel gl X s a) (x : Operand) : RS X (St.ev gl s x) (a.eval x) := by
  cases x with
  | tmp t => exact h.eval t
  | const v => exact ofValue_RS v
  | global g => exact h.glo g
  | func f => exact RS.any _

end Go.Ev
