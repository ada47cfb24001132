import Derived.Test.YtbjoemlcakfkmaaDoorB0
import Derived.DeepKeys
set_option linter.all false
section
/-
  THE STEPS OF CONTEXTS: a new block, a row of our own that is nil, a block written, a row handed on to a new number.
-/
namespace Go.Ev

theorem hpSet_get (hp : List Blk) (id : Nat) (b : Blk) (j : Nat) : (hpSet hp id b)[j]? = if j = id then some b else if j < hp.length then hp[j]? else if j < id then some .free else none := by
  unfold hpSet
  split
  · rename_i h
    rw [List.getElem?_set]
    by_cases hj : j = id
    · subst hj; simp [h]
    · rw [if_neg (Ne.symm hj), if_neg hj]
      split
      · rfl
      · rw [if_neg (by omega)]; simp; omega
  · rename_i h
    rw [List.getElem?_append]
    by_cases hj : j < hp.length
    · rw [if_pos hj, if_neg (by omega), if_pos hj]
    · rw [if_neg hj, if_neg hj, List.getElem?_append]
      simp only [List.length_replicate]
      by_cases hji : j = id
      · subst hji; simp
      · rw [if_neg hji]
        by_cases h2 : j < id
        · rw [if_pos (by omega), if_pos h2, List.getElem?_replicate, if_pos (by omega)]
        · rw [if_neg (by omega), if_neg h2]; exact List.getElem?_eq_none (by simp; omega)

theorem hpSet_same (hp : List Blk) (id : Nat) (b : Blk) : (hpSet hp id b)[id]? = some b := by simp [hpSet_get]
theorem hpSet_old (hp : List Blk) (id : Nat) (b : Blk) {j : Nat} (h : j ≠ id) {c : Blk} (hc : hp[j]? = some c) : (hpSet hp id b)[j]? = some c := by
  rw [hpSet_get, if_neg h, if_pos (List.getElem?_eq_some_iff.1 hc).1]; exact hc
/-- What is there behind it: it, or what was there, or what is free. -/
theorem hpSet_cases {hp : List Blk} {id : Nat} {b : Blk} {j : Nat} {c : Blk} (h : (hpSet hp id b)[j]? = some c) : (j = id ∧ c = b) ∨ (j ≠ id ∧ hp[j]? = some c) ∨ (j ≠ id ∧ c = .free) := by
  rw [hpSet_get] at h
  split at h
  · rename_i hj; simp at h; exact .inl ⟨hj, h.symm⟩
  · rename_i hj
    split at h
    · exact .inr (.inl ⟨hj, h⟩)
    · split at h
      · simp at h; exact .inr (.inr ⟨hj, h.symm⟩)
      · cases h

def upd (ρ : Place) (id : Nat) (q : Option Nat) : Place := fun j => if j = id then q else ρ j
theorem upd_same (ρ : Place) (id : Nat) (q : Option Nat) : upd ρ id q id = q := by simp [upd]
theorem upd_ne (ρ : Place) (id : Nat) (q : Option Nat) {j : Nat} (h : j ≠ id) : upd ρ id q j = ρ j := by simp [upd, h]

/-- A number that is not taken. -/
def Cx.unused (X : Cx) (id : Nat) : Prop := X.hp[id]? = none ∨ X.hp[id]? = some .free

theorem Cx.unused.ne {X : Cx} {id : Nat} (h : X.unused id) {j : Nat} {b : Blk} (hb : X.hp[j]? = some b) (hn : b ≠ .free) : j ≠ id := by
  rintro rfl
  rcases h with h | h
  · rw [h] at hb; cases hb
  · rw [h] at hb; cases hb; exact hn rfl

theorem live_not_free {b : Blk} (h : b.live = true) : b ≠ .free := by rintro rfl; cases h

/-- A NEW NUMBER FOR WHAT LIES IN A NEW BLOCK, OR FOR A NIL ROW. -/
theorem new_ok {X : Cx} (ok : Ok X) {id : Nat} (hf : X.unused id) {B : Blk} {q : Option Nat} {w' : World} {Y : Cx}
    (hY : Y = ⟨upd X.ρ id q, hpSet X.hp id B, X.F, w'⟩)
    (hos : w'.os = X.w.os) (ht : w'.tape = X.w.tape) (hout : w'.output = X.w.output) (hsz : X.w.heap.size ≤ w'.heap.size) (hh : ∀ k, k < X.w.heap.size → w'.heap[k]? = X.w.heap[k]?)
    (hq : ∀ n, q = some n → X.w.heap.size ≤ n)
    (hrb : WEvo X Y → HEvo X Y → RB Y id B) : Ok Y ∧ WEvo X Y ∧ HEvo X Y := by
  subst hY
  have hown : ∀ b, b < X.w.heap.size → Cx.Own ⟨upd X.ρ id q, hpSet X.hp id B, X.F, w'⟩ b → X.Own b := by
    rintro b hb ⟨j, c, h1, h2, h3⟩
    simp only at h1 h3
    rcases hpSet_cases h1 with ⟨rfl, _⟩ | ⟨hj, h4⟩ | ⟨_, rfl⟩
    · rw [upd_same] at h3; have := hq b h3; omega
    · rw [upd_ne _ _ _ hj] at h3; exact ⟨j, c, h4, h2, h3⟩
    · cases h2
  have W : WEvo X ⟨upd X.ρ id q, hpSet X.hp id B, X.F, w'⟩ :=
    ⟨hos, ht, hout, hsz, fun b c e f h => ⟨c, by show w'.heap[b]? = _; rw [hh b (Array.getElem?_eq_some_iff.1 h).1]; exact h, rfl⟩, fun b hb _ => hh b hb, hown, fun _ h => h, fun _ h => .inl h⟩
  have H : HEvo X ⟨upd X.ρ id q, hpSet X.hp id B, X.F, w'⟩ :=
    ⟨fun j b hb hn => ⟨b, hpSet_old _ _ _ (hf.ne hb hn) hb, .refl hn⟩, fun j b hb hn => upd_ne _ _ _ (hf.ne hb hn)⟩
  refine ⟨⟨fun j b hb => ?_, fun i j b c c' h1 h2 h3 h4 h5 h6 => ?_, fun b hb => ?_⟩, W, H⟩
  · rcases hpSet_cases hb with ⟨rfl, rfl⟩ | ⟨hj, h4⟩ | ⟨_, rfl⟩
    · exact hrb W H
    · exact (ok.blk j b h4).evo W H ok.fo (upd_ne _ _ _ hj) fun hl n hn => hh n (ok.lt ⟨j, b, h4, hl, hn⟩)
    · trivial
  · simp only at h1 h3 h5 h6
    rcases hpSet_cases h1 with ⟨rfl, rfl⟩ | ⟨hj, g1⟩ | ⟨_, rfl⟩
    · rcases hpSet_cases h3 with ⟨rfl, rfl⟩ | ⟨hj', g3⟩ | ⟨_, rfl⟩
      · rfl
      · rw [upd_same] at h5; rw [upd_ne _ _ _ hj'] at h6
        have := hq b h5; have := ok.lt ⟨j, c', g3, h4, h6⟩; omega
      · cases h4
    · rcases hpSet_cases h3 with ⟨rfl, rfl⟩ | ⟨hj', g3⟩ | ⟨_, rfl⟩
      · rw [upd_same] at h6; rw [upd_ne _ _ _ hj] at h5
        have := hq b h6; have := ok.lt ⟨i, c, g1, h2, h5⟩; omega
      · rw [upd_ne _ _ _ hj] at h5; rw [upd_ne _ _ _ hj'] at h6
        exact ok.inj i j b c c' g1 h2 g3 h4 h5 h6
      · cases h4
    · cases h2
  · have := ok.fo b hb
    exact ⟨Nat.lt_of_lt_of_le this.1 hsz, fun ho => this.2 (hown b this.1 ho)⟩

/-- A STAMP: a number of our own for a number of the model's. -/
theorem stamp_ok {X : Cx} (ok : Ok X) {id : Nat} (hf : X.unused id) {q : Option Nat} {Y : Cx} (hY : Y = ⟨upd X.ρ id q, hpSet X.hp id .stp, X.F, X.w⟩) : Ok Y ∧ WEvo X Y ∧ HEvo X Y := by
  subst hY
  have hown : ∀ b, Cx.Own ⟨upd X.ρ id q, hpSet X.hp id .stp, X.F, X.w⟩ b → X.Own b := by
    rintro b ⟨j, c, h1, h2, h3⟩
    simp only at h1 h3
    rcases hpSet_cases h1 with ⟨rfl, rfl⟩ | ⟨hj, h4⟩ | ⟨_, rfl⟩
    · cases h2
    · rw [upd_ne _ _ _ hj] at h3; exact ⟨j, c, h4, h2, h3⟩
    · cases h2
  have W : WEvo X ⟨upd X.ρ id q, hpSet X.hp id .stp, X.F, X.w⟩ :=
    ⟨rfl, rfl, rfl, Nat.le_refl _, fun b c e f h => ⟨c, h, rfl⟩, fun b hb _ => rfl, fun b _ h => hown b h, fun _ h => h, fun _ h => .inl h⟩
  have H : HEvo X ⟨upd X.ρ id q, hpSet X.hp id .stp, X.F, X.w⟩ :=
    ⟨fun j b hb hn => ⟨b, hpSet_old _ _ _ (hf.ne hb hn) hb, .refl hn⟩, fun j b hb hn => upd_ne _ _ _ (hf.ne hb hn)⟩
  refine ⟨⟨fun j b hb => ?_, fun i j b c c' h1 h2 h3 h4 h5 h6 => ?_, fun b hb => ?_⟩, W, H⟩
  · rcases hpSet_cases hb with ⟨rfl, rfl⟩ | ⟨hj, h4⟩ | ⟨_, rfl⟩
    · trivial
    · exact (ok.blk j b h4).evo W H ok.fo (upd_ne _ _ _ hj) fun hl n hn => rfl
    · trivial
  · simp only at h1 h3 h5 h6
    rcases hpSet_cases h1 with ⟨rfl, rfl⟩ | ⟨hj, g1⟩ | ⟨_, rfl⟩
    · cases h2
    · rcases hpSet_cases h3 with ⟨rfl, rfl⟩ | ⟨hj', g3⟩ | ⟨_, rfl⟩
      · cases h4
      · rw [upd_ne _ _ _ hj] at h5; rw [upd_ne _ _ _ hj'] at h6
        exact ok.inj i j b c c' g1 h2 g3 h4 h5 h6
      · cases h4
    · cases h2
  · have := ok.fo b hb
    exact ⟨this.1, fun ho => this.2 (hown b ho)⟩

/-- A BLOCK OF OURS WRITTEN. -/
theorem write_ok {X : Cx} (ok : Ok X) {id n : Nat} {B B' : Blk} (hB : X.hp[id]? = some B) (hl : B.live = true) (hρ : X.ρ id = some n) (he : BlkEvo B B') (hl' : B'.live = true) {w' : World} {Y : Cx}
    (hY : Y = ⟨X.ρ, hpSet X.hp id B', X.F, w'⟩)
    (hos : w'.os = X.w.os) (ht : w'.tape = X.w.tape) (hout : w'.output = X.w.output) (hsz : X.w.heap.size ≤ w'.heap.size) (hh : ∀ k, k < X.w.heap.size → k ≠ n → w'.heap[k]? = X.w.heap[k]?)
    (hs : ∀ (c : Array Value) (e : TypeId) (f : Nat × Nat), X.w.heap[n]? = some (Obj.cells c e f) → ∃ c' : Array Value, w'.heap[n]? = some (Obj.cells c' e f) ∧ c'.size = c.size)
    (hrb : WEvo X Y → HEvo X Y → RB Y id B') : Ok Y ∧ WEvo X Y ∧ HEvo X Y := by
  subst hY
  have hn := live_not_free hl
  have hO : X.Own n := ⟨id, B, hB, hl, hρ⟩
  have hown : ∀ b, Cx.Own ⟨X.ρ, hpSet X.hp id B', X.F, w'⟩ b → X.Own b := by
    rintro b ⟨j, c, h1, h2, h3⟩
    simp only at h1 h3
    rcases hpSet_cases h1 with ⟨rfl, _⟩ | ⟨hj, h4⟩ | ⟨_, rfl⟩
    · exact ⟨j, B, hB, hl, h3⟩
    · exact ⟨j, c, h4, h2, h3⟩
    · cases h2
  have W : WEvo X ⟨X.ρ, hpSet X.hp id B', X.F, w'⟩ := by
    refine ⟨hos, ht, hout, hsz, fun b c e f h => ?_, fun b hb ho => hh b hb (fun e => ho (e ▸ hO)), fun b _ ho => hown b ho, fun _ h => h, fun _ h => .inl h⟩
    by_cases hbn : b = n
    · subst hbn; exact hs c e f h
    · exact ⟨c, by show w'.heap[b]? = _; rw [hh b (Array.getElem?_eq_some_iff.1 h).1 hbn]; exact h, rfl⟩
  have H : HEvo X ⟨X.ρ, hpSet X.hp id B', X.F, w'⟩ := by
    refine ⟨fun j b hb hnf => ?_, fun _ _ _ _ => rfl⟩
    by_cases hj : j = id
    · subst hj; rw [hB] at hb; cases hb; exact ⟨B', hpSet_same _ _ _, he⟩
    · exact ⟨b, hpSet_old _ _ _ hj hb, .refl hnf⟩
  refine ⟨⟨fun j b hb => ?_, fun i j b c c' h1 h2 h3 h4 h5 h6 => ?_, fun b hb => ?_⟩, W, H⟩
  · rcases hpSet_cases hb with ⟨rfl, rfl⟩ | ⟨hj, h4⟩ | ⟨_, rfl⟩
    · exact hrb W H
    · exact (ok.blk j b h4).evo W H ok.fo rfl fun hl2 m hm => hh m (ok.lt ⟨j, b, h4, hl2, hm⟩) fun e => hj (ok.inj j id n b B h4 hl2 hB hl (e ▸ hm) hρ)
    · trivial
  · simp only at h1 h3 h5 h6
    rcases hpSet_cases h1 with ⟨rfl, rfl⟩ | ⟨hj, g1⟩ | ⟨_, rfl⟩
    · rcases hpSet_cases h3 with ⟨rfl, rfl⟩ | ⟨hj', g3⟩ | ⟨_, rfl⟩
      · rfl
      · exact ok.inj i j b B c' hB hl g3 h4 h5 h6
      · cases h4
    · rcases hpSet_cases h3 with ⟨rfl, rfl⟩ | ⟨hj', g3⟩ | ⟨_, rfl⟩
      · exact ok.inj i j b c B g1 h2 hB hl h5 h6
      · exact ok.inj i j b c c' g1 h2 g3 h4 h5 h6
      · cases h4
    · cases h2
  · have := ok.fo b hb
    exact ⟨Nat.lt_of_lt_of_le this.1 hsz, fun ho => this.2 (hown b ho)⟩

/-- A ROW OF OURS HANDED ON TO A NEW NUMBER: it stays where it is, or lies in a new block. -/
theorem move_ok {X : Cx} (ok : Ok X) {id id' : Nat} {B B' : Blk} (hB : X.hp[id]? = some B) (hl : B.live = true) (hf : X.unused id') {q : Option Nat} {w' : World} {Y : Cx}
    (hY : Y = ⟨upd X.ρ id' q, hpSet (hpSet X.hp id .gone) id' B', X.F, w'⟩)
    (hos : w'.os = X.w.os) (ht : w'.tape = X.w.tape) (hout : w'.output = X.w.output) (hsz : X.w.heap.size ≤ w'.heap.size) (hh : ∀ k, k < X.w.heap.size → X.ρ id ≠ some k → w'.heap[k]? = X.w.heap[k]?)
    (hs : ∀ n, X.ρ id = some n → ∀ (c : Array Value) (e : TypeId) (f : Nat × Nat), X.w.heap[n]? = some (Obj.cells c e f) → ∃ c' : Array Value, w'.heap[n]? = some (Obj.cells c' e f) ∧ c'.size = c.size)
    (hq : q = X.ρ id ∨ ∀ n, q = some n → X.w.heap.size ≤ n)
    (hrb : WEvo X Y → HEvo X Y → RB Y id' B') : Ok Y ∧ WEvo X Y ∧ HEvo X Y := by
  subst hY
  have hne : id ≠ id' := hf.ne hB (live_not_free hl)
  have cs : ∀ {j : Nat} {c : Blk}, (hpSet (hpSet X.hp id .gone) id' B')[j]? = some c → c.live = true → (j = id' ∧ c = B') ∨ (j ≠ id' ∧ j ≠ id ∧ X.hp[j]? = some c) := fun {j c} h hc => by
    rcases hpSet_cases h with ⟨h1, h2⟩ | ⟨h1, h2⟩ | ⟨_, rfl⟩
    · exact .inl ⟨h1, h2⟩
    · rcases hpSet_cases h2 with ⟨_, rfl⟩ | ⟨h3, h4⟩ | ⟨_, rfl⟩
      · cases hc
      · exact .inr ⟨h1, h3, h4⟩
      · cases hc
    · cases hc
  have hown : ∀ b, b < X.w.heap.size → Cx.Own ⟨upd X.ρ id' q, hpSet (hpSet X.hp id .gone) id' B', X.F, w'⟩ b → X.Own b := by
    rintro b hb ⟨j, c, h1, h2, h3⟩
    simp only at h1 h3
    rcases cs h1 h2 with ⟨rfl, _⟩ | ⟨hj, _, h4⟩
    · rw [upd_same] at h3
      rcases hq with hq | hq
      · exact ⟨id, B, hB, hl, hq ▸ h3⟩
      · have := hq b h3; omega
    · rw [upd_ne _ _ _ hj] at h3; exact ⟨j, c, h4, h2, h3⟩
  have W : WEvo X ⟨upd X.ρ id' q, hpSet (hpSet X.hp id .gone) id' B', X.F, w'⟩ := by
    refine ⟨hos, ht, hout, hsz, fun b c e f h => ?_, fun b hb ho => hh b hb (fun e => ho ⟨id, B, hB, hl, e⟩), hown, fun _ h => h, fun _ h => .inl h⟩
    by_cases hbn : X.ρ id = some b
    · exact hs b hbn c e f h
    · exact ⟨c, by show w'.heap[b]? = _; rw [hh b (Array.getElem?_eq_some_iff.1 h).1 hbn]; exact h, rfl⟩
  have H : HEvo X ⟨upd X.ρ id' q, hpSet (hpSet X.hp id .gone) id' B', X.F, w'⟩ := by
    refine ⟨fun j b hb hnf => ?_, fun j b hb hnf => upd_ne _ _ _ (hf.ne hb hnf)⟩
    have h1 := hf.ne hb hnf
    by_cases hj : j = id
    · subst hj; exact ⟨.gone, hpSet_old _ _ _ h1 (hpSet_same _ _ _), .gone _⟩
    · exact ⟨b, hpSet_old _ _ _ h1 (hpSet_old _ _ _ hj hb), .refl hnf⟩
  refine ⟨⟨fun j b hb => ?_, fun i j b c c' h1 h2 h3 h4 h5 h6 => ?_, fun b hb => ?_⟩, W, H⟩
  · by_cases hlb : b.live = true
    · rcases cs hb hlb with ⟨rfl, rfl⟩ | ⟨hj, hj2, h4⟩
      · exact hrb W H
      · exact (ok.blk j b h4).evo W H ok.fo (upd_ne _ _ _ hj) fun _ m hm => hh m (ok.lt ⟨j, b, h4, hlb, hm⟩) fun e => hj2 (ok.inj j id m b B h4 hlb hB hl hm e)
    · cases b <;> first | trivial | (simp [Blk.live] at hlb)
  · simp only at h1 h3 h5 h6
    rcases cs h1 h2 with ⟨rfl, rfl⟩ | ⟨hj, hj2, g1⟩
    · rcases cs h3 h4 with ⟨rfl, rfl⟩ | ⟨hj', hj2', g3⟩
      · rfl
      · rw [upd_same] at h5; rw [upd_ne _ _ _ hj'] at h6
        rcases hq with hq | hq
        · exact absurd (ok.inj j id b c' B g3 h4 hB hl h6 (hq ▸ h5)) hj2'
        · have := hq b h5; have := ok.lt ⟨j, c', g3, h4, h6⟩; omega
    · rcases cs h3 h4 with ⟨rfl, rfl⟩ | ⟨hj', hj2', g3⟩
      · rw [upd_same] at h6; rw [upd_ne _ _ _ hj] at h5
        rcases hq with hq | hq
        · exact absurd (ok.inj i id b c B g1 h2 hB hl h5 (hq ▸ h6)) hj2
        · have := hq b h6; have := ok.lt ⟨i, c, g1, h2, h5⟩; omega
      · rw [upd_ne _ _ _ hj] at h5; rw [upd_ne _ _ _ hj'] at h6
        exact ok.inj i j b c c' g1 h2 g3 h4 h5 h6
  · have := ok.fo b hb
    exact ⟨Nat.lt_of_lt_of_le this.1 hsz, fun ho => this.2 (hown b this.1 ho)⟩

end Go.Ev
end

section
/-
  THE EVALUATOR's OPERATIONS ARE THE MODEL's: types; operations on numbers, texts and slots.
-/
namespace Go.Ev

/-- Are these the cells of a kind's zero value? -/
def zeroB : Kind → List Value → Bool
  | .int k, [.int k' n] => decide (k' = k) && decide (n = 0)
  | .bool, [.bool b] => !b
  | .str, [.string s] => s.size == 0
  | .opq, [v] => v.oneCell'
  | .unit, [] => true
  | .pair a b, cs => zeroB a (cs.take a.size) && zeroB b (cs.drop a.size)
  | .arr n e, cs => decide (cs.length = n * e.size) && (List.range n).all fun i => zeroB e (cut cs (i * e.size) e.size)
  | .sl _, [.slice none 0 0] => true
  | _, _ => false

def fieldsB (tys : List (TypeId × TI)) : List Field → List TypeId → Kind → Nat → Bool
  | [], [], .unit, _ => true
  | f :: fs, t :: ts, .pair a b, off => f.type == t && f.offset == off && decide (0 < a.size) && (match tys.lookup t with | some j => decide (j.K = a) | none => false) && fieldsB tys fs ts b (off + a.size)
  | _, _, _, _ => false

/-- Does the table's row say what the program's table says of the type? -/
def tyB (P : Program) (tys : List (TypeId × TI)) (q : TypeId × TI) : Bool :=
  match P.info? q.1, P.underlying q.1 with
  | some i, some d =>
    decide (i.size = q.2.K.size) && decide (i.bytes = q.2.bytes) &&
    (match i.zero with | some (.agg cs) => q.2.K.isAgg && zeroB q.2.K cs.toList | some z => !q.2.K.isAgg && z.oneCell' && zeroB q.2.K [z] | none => false) &&
    (match d, q.2.d, q.2.K with
      | .int k, .prim, .int k' => decide (k = k')
      | .bool, .prim, .bool => true
      | .string, .prim, .str => true
      | .slice e, .slice e', .sl Ke => decide (e = e') && (match tys.lookup e with | some j => decide (j.K = Ke) && decide (0 < Ke.size) && decide (0 < j.bytes) | none => false)
      | .array n e, .array n' e', .arr n'' Ke => decide (n = n') && decide (n = n'') && decide (e = e') && (match tys.lookup e with | some j => decide (j.K = Ke) && decide (0 < Ke.size) | none => false)
      | .struct fs, .struct ts, K => fieldsB tys fs.toList ts K 0
      | .map k v, .map k' v', .opq => decide (k = k') && decide (v = v')
      | .pointer e, .ptr e', .opq => decide (e = e')
      | _, _, _ => false) &&
    (!q.2.cmp || (P.keyTypeAt 100 q.1 && !(P.eqGuardType P.depth q.1)))
  | _, _ => false

variable {A : Type}

def TyOK (P : Program) (E : Env A) : Prop := ∀ t i, E.ty.lookup t = some i → tyB P E.ty (t, i) = true

theorem ti_sound {out : A} {E : Env A} {t : TypeId} {k : TI → Option A} (h : E.ti t k = some out) : ∃ i, E.ty.lookup t = some i ∧ k i = some out := by
  unfold Env.ti at h
  split at h
  · rename_i i hi; exact ⟨i, hi, h⟩
  · cases h

section
variable {P : Program} {E : Env A} (T : TyOK P E)
include T

theorem TyOK.info {t : TypeId} {i : TI} (h : E.ty.lookup t = some i) : ∃ inf d, P.info? t = some inf ∧ P.underlying t = some d ∧ inf.size = i.K.size ∧ inf.bytes = i.bytes := by
  have := T t i h
  unfold tyB at this
  split at this
  · rename_i inf d h1 h2
    simp only [Bool.and_eq_true, decide_eq_true_eq] at this
    exact ⟨inf, d, h1, h2, this.1.1.1.1, this.1.1.1.2⟩
  · cases this

theorem TyOK.size {t : TypeId} {i : TI} (h : E.ty.lookup t = some i) : (P.info? t).map (·.size) = some i.K.size := by
  obtain ⟨inf, d, h1, _, h2, _⟩ := T.info h
  simp [h1, h2]

theorem TyOK.cellsOf {t : TypeId} {i : TI} (h : E.ty.lookup t = some i) : P.cellsOf t = i.K.size := by
  obtain ⟨inf, d, h1, _, h2, _⟩ := T.info h
  simp [Program.cellsOf, h1, h2]

theorem TyOK.runSize {t : TypeId} {i : TI} (h : E.ty.lookup t = some i) (w : World) : (sizeOf t).run P w = .ok i.K.size w := by
  obtain ⟨inf, d, h1, _, h2, _⟩ := T.info h
  rw [run_sizeOf w h1, T.cellsOf h]

theorem TyOK.desc {t : TypeId} {i : TI} (h : E.ty.lookup t = some i) : ∃ d, P.underlying t = some d ∧
    (match d, i.d, i.K with
      | .int k, .prim, .int k' => decide (k = k')
      | .bool, .prim, .bool => true
      | .string, .prim, .str => true
      | .slice e, .slice e', .sl Ke => decide (e = e') && (match E.ty.lookup e with | some j => decide (j.K = Ke) && decide (0 < Ke.size) && decide (0 < j.bytes) | none => false)
      | .array n e, .array n' e', .arr n'' Ke => decide (n = n') && decide (n = n'') && decide (e = e') && (match E.ty.lookup e with | some j => decide (j.K = Ke) && decide (0 < Ke.size) | none => false)
      | .struct fs, .struct ts, K => fieldsB E.ty fs.toList ts K 0
      | .map k v, .map k' v', .opq => decide (k = k') && decide (v = v')
      | .pointer e, .ptr e', .opq => decide (e = e')
      | _, _, _ => false) = true := by
  have := T t i h
  unfold tyB at this
  split at this
  · rename_i inf d h1 h2
    simp only [Bool.and_eq_true] at this
    exact ⟨d, h2, this.1.2⟩
  · cases this

theorem TyOK.agg {t : TypeId} {i : TI} (h : E.ty.lookup t = some i) (w : World) : (isAgg t).run P w = .ok i.K.isAgg w := by
  obtain ⟨d, h1, h2⟩ := T.desc h
  unfold isAgg
  rw [Sem.run_bind, run_underlying h1 w]
  obtain ⟨K, td, by', cm⟩ := i
  simp only at h2 ⊢
  cases d <;> cases td <;> cases K <;> simp [Kind.isAgg] at h2 ⊢
  all_goals (simp [fieldsB] at h2)
  all_goals (rename_i fs ts; cases hf : fs.toList <;> cases ts <;> simp [hf, fieldsB] at h2)

theorem TyOK.cmp {t : TypeId} {i : TI} (h : E.ty.lookup t = some i) (hc : i.cmp = true) : P.keyTypeAt 100 t = true ∧ P.eqGuardType P.depth t = false := by
  have := T t i h
  unfold tyB at this
  split at this
  · simp [hc] at this; exact this.2
  · cases this

theorem TyOK.slice {t e : TypeId} {i : TI} (h : E.ty.lookup t = some i) (hd : i.d = .slice e) :
    P.underlying t = some (.slice e) ∧ ∃ j, E.ty.lookup e = some j ∧ i.K = .sl j.K ∧ 0 < j.K.size ∧ 0 < j.bytes := by
  obtain ⟨d, h1, h2⟩ := T.desc h
  obtain ⟨K, td, by', cm⟩ := i
  simp only at hd; subst hd
  cases d <;> cases K <;> simp at h2
  obtain ⟨rfl, h2⟩ := h2
  refine ⟨h1, ?_⟩
  split at h2
  · rename_i j hj; simp at h2; exact ⟨j, hj, by simp [h2.1.1], by rw [h2.1.1]; exact h2.1.2, h2.2⟩
  · cases h2

theorem TyOK.array {t e : TypeId} {n : Nat} {i : TI} (h : E.ty.lookup t = some i) (hd : i.d = .array n e) :
    P.underlying t = some (.array n e) ∧ ∃ j, E.ty.lookup e = some j ∧ i.K = .arr n j.K ∧ 0 < j.K.size := by
  obtain ⟨d, h1, h2⟩ := T.desc h
  obtain ⟨K, td, by', cm⟩ := i
  simp only at hd; subst hd
  cases d <;> cases K <;> simp at h2
  obtain ⟨⟨⟨rfl, rfl⟩, rfl⟩, h2⟩ := h2
  refine ⟨h1, ?_⟩
  split at h2
  · rename_i j hj; simp at h2; exact ⟨j, hj, by simp [h2.1], by rw [h2.1]; exact h2.2⟩
  · cases h2

theorem TyOK.map {t k v : TypeId} {i : TI} (h : E.ty.lookup t = some i) (hd : i.d = .map k v) : P.underlying t = some (.map k v) := by
  obtain ⟨d, h1, h2⟩ := T.desc h
  obtain ⟨K, td, by', cm⟩ := i
  simp only at hd; subst hd
  cases d <;> cases K <;> simp at h2
  obtain ⟨rfl, rfl⟩ := h2
  exact h1
end

theorem flatten_replicate_length {α : Type} (l : List (List α)) (m : Nat) (h : ∀ c ∈ l, c.length = m) : l.flatten.length = l.length * m := by
  induction l with
  | nil => simp
  | cons c r ih =>
    have h1 := h c (by simp); have h2 := ih fun c hc => h c (by simp [hc])
    simp [h1, h2, Nat.add_mul, Nat.add_comm]

/-- A list cut into equal parts. -/
theorem chunks {α : Type} : ∀ (n m : Nat) (cs : List α), cs.length = n * m → cs = ((List.range n).map fun i => cut cs (i * m) m).flatten
  | 0, m, cs, h => by simp at h; simp [h]
  | n + 1, m, cs, h => by
    have h1 : (cs.drop m).length = n * m := by simp [h, Nat.add_mul]
    have ih := chunks n m (cs.drop m) h1
    rw [List.range_succ_eq_map, List.map_cons, List.flatten_cons, List.map_map]
    have e1 : cut cs (0 * m) m = cs.take m := by simp [cut]
    have e2 : ((fun i => cut cs (i * m) m) ∘ Nat.succ) = fun i => cut (cs.drop m) (i * m) m := by
      funext i; simp [cut, Nat.succ_mul, Nat.add_comm]
    rw [e1, e2, ← ih, List.take_append_drop]

theorem zeroB_RP {F : Nat → Prop} {w : World} : ∀ {K : Kind} {cs : List Value}, zeroB K cs = true → RP F w K K.zero cs
  | .int k, cs, h => by
    match cs with
    | [.int k' n] => simp [zeroB] at h; obtain ⟨rfl, rfl⟩ := h; rfl
    | [] => simp [zeroB] at h
    | v :: _ :: _ => simp [zeroB] at h
    | [.bool _] | [.float _ _] | [.complex _ _ _] | [.string _] | [.pointer _] | [.slice _ _ _] | [.map _] | [.chan _] | [.func _ _ _] | [.nilFunc] | [.iface _ _] | [.nilIface] | [.agg _] | [.tuple _] => simp [zeroB] at h
  | .bool, cs, h => by
    match cs with
    | [.bool b] => simp [zeroB] at h; subst h; rfl
    | [] => simp [zeroB] at h
    | v :: _ :: _ => simp [zeroB] at h
    | [.int _ _] | [.float _ _] | [.complex _ _ _] | [.string _] | [.pointer _] | [.slice _ _ _] | [.map _] | [.chan _] | [.func _ _ _] | [.nilFunc] | [.iface _ _] | [.nilIface] | [.agg _] | [.tuple _] => simp [zeroB] at h
  | .str, cs, h => by
    match cs with
    | [.string s] =>
      simp [zeroB] at h
      subst h; rfl
    | [] => simp [zeroB] at h
    | v :: _ :: _ => simp [zeroB] at h
    | [.int _ _] | [.float _ _] | [.complex _ _ _] | [.bool _] | [.pointer _] | [.slice _ _ _] | [.map _] | [.chan _] | [.func _ _ _] | [.nilFunc] | [.iface _ _] | [.nilIface] | [.agg _] | [.tuple _] => simp [zeroB] at h
  | .opq, cs, h => by
    match cs with
    | [v] => exact ⟨v, rfl, by simpa [zeroB] using h⟩
    | [] => simp [zeroB] at h
    | v :: _ :: _ => simp [zeroB] at h
  | .unit, cs, h => by
    match cs with
    | [] => rfl
    | v :: _ => simp [zeroB] at h
  | .pair a b, cs, h => by
    simp only [zeroB, Bool.and_eq_true] at h
    exact ⟨cs.take a.size, cs.drop a.size, by simp, zeroB_RP h.1, zeroB_RP h.2⟩
  | .arr n e, cs, h => by
    simp only [zeroB, Bool.and_eq_true, decide_eq_true_eq, List.all_eq_true, List.mem_range] at h
    obtain ⟨hl, h⟩ := h
    refine ⟨by simp [Kind.zero], (List.range n).map fun i => cut cs (i * e.size) e.size, chunks n e.size cs hl, ?_⟩
    refine All2.of_get (by simp [Kind.zero]) fun i a b ha hb => ?_
    have hi : i < n := by have := (List.getElem?_eq_some_iff.1 ha).1; simpa [Kind.zero] using this
    have ha' : a = e.zero := by
      have : (List.replicate n e.zero)[i]? = some e.zero := by simp [hi]
      have h2 : (List.replicate n e.zero)[i]? = some a := ha
      rw [this] at h2; exact (Option.some.inj h2).symm
    have hb' : b = cut cs (i * e.size) e.size := by simp [hi] at hb; exact hb.symm
    rw [ha', hb']
    exact zeroB_RP (h i hi)
  | .sl e, cs, h => by
    match cs with
    | [.slice none 0 0] => exact ⟨none, 0, rfl, Nat.le_refl _, fun h => absurd h (Nat.lt_irrefl _)⟩
    | [] => simp [zeroB] at h
    | v :: _ :: _ => simp [zeroB] at h
    | [.slice (some _) _ _] | [.slice none (_ + 1) _] | [.slice none 0 (_ + 1)] | [.bool _] | [.int _ _] | [.float _ _] | [.complex _ _ _] | [.string _] | [.pointer _] | [.map _] | [.chan _] | [.func _ _ _] | [.nilFunc] | [.iface _ _] | [.nilIface] | [.agg _] | [.tuple _] => simp [zeroB] at h

theorem TyOK.zero {P : Program} {E : Env A} (T : TyOK P E) {t : TypeId} {i : TI} (h : E.ty.lookup t = some i) (w : World) (X : Cx) :
    ∃ z, (zeroValue t).run P w = .ok z w ∧ RS0 X (.p i.K i.K.zero) z ∧ RP X.F X.w i.K i.K.zero z.cells.toList := by
  obtain ⟨inf, d, h1, _⟩ := T.info h
  have := T t i h
  unfold tyB at this
  rw [h1] at this
  split at this
  · rename_i inf' d' h3 h4
    cases h3
    simp only [Bool.and_eq_true] at this
    have hz := this.1.1.2
    split at hz
    · rename_i cs hcs
      simp only [Bool.and_eq_true] at hz
      have hr := zeroB_RP (F := X.F) (w := X.w) hz.2
      exact ⟨.agg cs, by simp [zeroValue, typeInfo, h1, hcs], .inr ⟨cs.toList, hr, .inl ⟨hz.1, by simp⟩⟩, hr⟩
    · rename_i z hz1 hz2
      simp only [Bool.and_eq_true, Bool.not_eq_true'] at hz
      have hr := zeroB_RP (F := X.F) (w := X.w) hz.2
      refine ⟨z, by simp [zeroValue, typeInfo, h1, hz2], .inr ⟨[z], hr, .inr ⟨hz.1.1, rfl⟩⟩, ?_⟩
      have e : z.cells.toList = [z] := by
        have := hz.1.2
        cases z <;> first | rfl | (simp [Value.oneCell'] at this)
      rw [e]; exact hr
    · cases hz
  · cases this

end Go.Ev
end

section
/-
  THE EVALUATOR's OPERATIONS ARE THE MODEL's, MORE: slots, new variables, numbers, addresses, loads.
-/
namespace Go.Ev

structure At (X : Cx) (a : Act) (o : Oper) (ev : Operand → AV) (sub : List (Nat × Blk)) : Prop where
  opr : ∀ x, x ∈ o.op.operands → RS X (ev x) (a.eval x)
  ok : Ok X
  glo : ∀ g, RS X (ev (.global g)) (.pointer (some ⟨g, 0, none⟩))
  sub : ∀ (id : Nat) (b : Blk), sub.lookup id = some b → X.hp[id]? = some b

/-- What an operation does, told of its operands and of the blocks that they lead to alone. -/
def OpSem (P : Program) (o : Oper) (ev : Operand → AV) (sub : List (Nat × Blk)) (fresh : Nat) (v : AV) (l : List (Nat × Blk)) : Prop :=
  (∀ q, q ∈ l → fresh ≤ q.1 ∨ ∃ c, sub.lookup q.1 = some c) ∧
  ∀ (X : Cx) (a : Act) (K : Act → World → Prop) (Q : Exit → Act → World → Prop), At X a o ev sub → (∀ q, q ∈ l → fresh ≤ q.1 → X.unused q.1) →
    (∀ (Y : Cx) (u : Value), Y.hp = asg X.hp l → RS Y v u → Ok Y → WEvo X Y → HEvo X Y → K (a.put o.dst u) Y.w) → o.wp P a X.w K Q

theorem opsem_value {P : Program} {o : Oper} {ev : Operand → AV} {sub : List (Nat × Blk)} {fresh : Nat} {v : AV}
    (h : ∀ (X : Cx) (a : Act), At X a o ev sub → ∃ u, (execOp a.eval o).run P X.w = .ok (.value u) X.w ∧ RS X v u) : OpSem P o ev sub fresh v [] :=
  ⟨by simp, fun X a K Q at_ _ hk => by
    obtain ⟨u, hr, hv⟩ := h X a at_
    unfold Oper.wp; rw [hr]
    exact hk X u rfl hv at_.ok (.refl X) (.refl X)⟩

/-- An operation that makes a block, or a nil row. -/
theorem opsem_new {P : Program} {o : Oper} {ev : Operand → AV} {sub : List (Nat × Blk)} {fresh : Nat} {v : AV} {B : Blk}
    (h : ∀ (X : Cx) (a : Act), At X a o ev sub → X.unused fresh → ∃ (u : Value) (q : Option Nat) (w' : World), (execOp a.eval o).run P X.w = .ok (.value u) w' ∧
      w'.os = X.w.os ∧ w'.tape = X.w.tape ∧ w'.output = X.w.output ∧ X.w.heap.size ≤ w'.heap.size ∧ (∀ k, k < X.w.heap.size → w'.heap[k]? = X.w.heap[k]?) ∧ (∀ n, q = some n → X.w.heap.size ≤ n) ∧
      ∀ Y : Cx, Y = ⟨upd X.ρ fresh q, hpSet X.hp fresh B, X.F, w'⟩ → WEvo X Y → HEvo X Y → RB Y fresh B ∧ RS Y v u) : OpSem P o ev sub fresh v [(fresh, B)] :=
  ⟨by simp, fun X a K Q at_ hu hk => by
    have hun := hu (fresh, B) (by simp) (Nat.le_refl _)
    obtain ⟨u, q, w', hr, h1, h2, h3, h4, h5, h6, h7⟩ := h X a at_ hun
    obtain ⟨o1, o2, o3⟩ := new_ok at_.ok hun (B := B) (q := q) (w' := w') (Y := ⟨upd X.ρ fresh q, hpSet X.hp fresh B, X.F, w'⟩) rfl h1 h2 h3 h4 h5 h6 fun W H => (h7 _ rfl W H).1
    unfold Oper.wp; rw [hr]
    exact hk ⟨upd X.ρ fresh q, hpSet X.hp fresh B, X.F, w'⟩ u rfl (h7 _ rfl o2 o3).2 o1 o2 o3⟩

variable {A : Type}

theorem R1_row {X : Cx} {id : Nat} {v : Value} {e : TypeId} {K : Kind} {xs : List K.den} (h : X.hp[id]? = some (.row e K xs)) : R1 X (.row id) v ↔ ((X.ρ id = none ∧ xs.length = 0 ∧ v = .slice none 0 0) ∨
    (∃ b cap cur, X.ρ id = some b ∧ v = .slice (some ⟨b, 0, none⟩) xs.length cap ∧ X.w.heap[b]? = some (.cells cur e (0, 0)) ∧ cur.size = cap * K.size ∧ xs.length ≤ cap)) := by
  simp only [R1]; rw [h]
theorem R1_sub {X : Cx} {id lo len : Nat} {v : Value} {e : TypeId} {K : Kind} {xs : List K.den} (h : X.hp[id]? = some (.row e K xs)) : R1 X (.sub id lo len) v ↔
    (lo + len ≤ xs.length ∧ ∃ ao c, v = .slice ao len c ∧ len ≤ c ∧ (0 < len → ∃ b, X.ρ id = some b ∧ ao = some ⟨b, lo * K.size, none⟩)) := by
  simp only [R1]; rw [h]
theorem R1_ptr {X : Cx} {id : Nat} {path : List Hop} {v : Value} {t : TypeId} {K : Kind} {av : AV} (h : X.hp[id]? = some (.var t K av)) : R1 X (.ptr id path) v ↔
    ∃ b off K', X.ρ id = some b ∧ koff K path = some (off, K') ∧ v = .pointer (some ⟨b, off, none⟩) := by
  simp only [R1]; rw [h]
theorem R1_ptrR {X : Cx} {id : Nat} {path : List Hop} {v : Value} {e : TypeId} {K : Kind} {xs : List K.den} (h : X.hp[id]? = some (.row e K xs)) : R1 X (.ptr id path) v ↔
    ∃ b i r off K', path = .idx i :: r ∧ i < xs.length ∧ X.ρ id = some b ∧ koff K r = some (off, K') ∧ v = .pointer (some ⟨b, i * K.size + off, none⟩) := by
  simp only [R1]; rw [h]
theorem R1_slc {X : Cx} {id lo len : Nat} {path : List Hop} {v : Value} {t : TypeId} {K : Kind} {av : AV} (h : X.hp[id]? = some (.var t K av)) : R1 X (.slc id path lo len) v ↔
    ∃ b off n e, X.ρ id = some b ∧ koff K path = some (off, .arr n e) ∧ lo + len ≤ n ∧ ∃ ao c, v = .slice ao len c ∧ len ≤ c ∧ (0 < len → ao = some ⟨b, off + lo * e.size, none⟩) := by
  simp only [R1]; rw [h]
theorem R1_mp {X : Cx} {id : Nat} {v : Value} {KK KV : Kind} {es : List (KK.den × KV.den)} (h : X.hp[id]? = some (.map KK KV es)) : R1 X (.mp id) v ↔ ∃ b, X.ρ id = some b ∧ v = .map (some b) := by
  simp only [R1]; rw [h]

theorem R1_ment {X : Cx} {id : Nat} {v : Value} {KK KV : Kind} {es : List (KK.den × KV.den)} {x : KK.den} {g : Nat} (h : X.hp[id]? = some (.ment KK KV es x g)) : R1 X (.mp id) v ↔ ∃ b, X.ρ id = some b ∧ v = .map (some b) := by
  simp only [R1]; rw [h]
theorem R1_stp {X : Cx} {id : Nat} {v : Value} (h : X.hp[id]? = some .stp) : R1 X (.mp id) v ↔ ∃ n : Nat, X.ρ id = some n ∧ v = goInt n := by
  simp only [R1]; rw [h]

theorem RS.row_new {Y : Cx} {id b cap : Nat} {e : TypeId} {K : Kind} {xs : List K.den} {cur : Array Value} (h1 : Y.hp[id]? = some (.row e K xs)) (h2 : Y.ρ id = some b)
    (h3 : Y.w.heap[b]? = some (.cells cur e (0, 0))) (h4 : cur.size = cap * K.size) (h5 : xs.length ≤ cap) : RS Y (.row id) (.slice (some ⟨b, 0, none⟩) xs.length cap) :=
  (RS.one (by simp) (by simp) (by simp) (by simp)).2 ((R1_row h1).2 (.inr ⟨b, cap, cur, h2, rfl, h3, h4, h5⟩))

theorem RS.row_nil {Y : Cx} {id : Nat} {e : TypeId} {K : Kind} {xs : List K.den} (h1 : Y.hp[id]? = some (.row e K xs)) (h2 : Y.ρ id = none) (h3 : xs.length = 0) : RS Y (.row id) (.slice none 0 0) :=
  (RS.one (by simp) (by simp) (by simp) (by simp)).2 ((R1_row h1).2 (.inl ⟨h2, h3, rfl⟩))

theorem RS.ptr_new {Y : Cx} {id b : Nat} {t : TypeId} {K : Kind} {v : AV} (h1 : Y.hp[id]? = some (.var t K v)) (h2 : Y.ρ id = some b) : RS Y (.ptr id []) (.pointer (some ⟨b, 0, none⟩)) :=
  (RS.one (by simp) (by simp) (by simp) (by simp)).2 ((R1_ptr h1).2 ⟨b, 0, K, h2, koff_nil K, rfl⟩)

section
variable {P : Program} {E : Env A} (T : TyOK P E) {o : Oper} {ev : Operand → AV} {sub : List (Nat × Blk)} {fresh : Nat} {k : Cont A} {out : A}
include T

theorem move_sound {x : Operand} (ho : o.op = .move x ∨ o.op = .assign x) (h : moveK E o.dst o.type ev x fresh k = some out) : ∃ v l, k v l = some out ∧ OpSem P o ev sub fresh v l := by
  have hx : ∀ a : Act, ∀ w, (execOp a.eval o).run P w = .ok (.value (a.eval x)) w := by
    intro a w; rcases ho with ho | ho <;> simp [execOp, ho]
  have hm : x ∈ o.op.operands := by rcases ho with ho | ho <;> simp [Op.operands, ho]
  unfold moveK at h
  split at h
  · obtain ⟨i, hi, h⟩ := ti_sound h
    split at h
    · rename_i e he
      obtain ⟨j, hj, h⟩ := ti_sound h
      cases hb : E.nilAt o.dst with
      | true =>
        rw [hb] at h
        exact ⟨_, _, h, opsem_value fun X a at_ => ⟨.slice none 0 0, hx a X.w, .inr ⟨[.slice none 0 0], ⟨none, 0, rfl, Nat.le_refl _, fun h => absurd h (by simp)⟩, .inr ⟨rfl, rfl⟩⟩⟩⟩
      | false =>
      rw [hb] at h
      refine ⟨_, _, h, opsem_new fun X a at_ _ => ⟨_, none, X.w, hx a X.w, rfl, rfl, rfl, Nat.le_refl _, fun _ _ => rfl, (fun _ h => nomatch h), fun Y hY W H => ?_⟩⟩
      subst hY
      exact ⟨.inl ⟨upd_same .., rfl⟩, RS.row_nil (hpSet_same ..) (upd_same ..) rfl⟩
    · cases h
  · exact ⟨_, _, h, opsem_value fun X a at_ => ⟨_, hx a X.w, at_.opr _ hm⟩⟩

omit T in
theorem pick_sound {c x y : Operand} (ho : o.op = .pick c x y) (h : (match ev c with | .p .bool t => (bif t then k (ev x) [] else k (ev y) []) | _ => none) = some out) :
    ∃ v l, k v l = some out ∧ OpSem P o ev sub fresh v l := by
  split at h
  · rename_i t hc
    have key : ∀ z, (z = if t then x else y) → OpSem P o ev sub fresh (ev z) [] := fun z hz => opsem_value fun X a at_ => by
      have h1 := at_.opr c (by simp [Op.operands, ho])
      rw [hc, RS.bool] at h1
      refine ⟨a.eval z, ?_, at_.opr z (by subst hz; cases t <;> simp [Op.operands, ho])⟩
      subst hz
      cases t <;> simp [execOp, ho, h1, asBool]
    cases t
    · exact ⟨_, _, by simpa using h, key y (by simp)⟩
    · exact ⟨_, _, by simpa using h, key x (by simp)⟩
  · cases h

theorem alloc_sound {t : TypeId} (ho : o.op = .alloc t) (h : (E.ti t fun i => k (.ptr fresh []) [(fresh, .var t i.K (.p i.K i.K.zero))]) = some out) : ∃ v l, k v l = some out ∧ OpSem P o ev sub fresh v l := by
  obtain ⟨i, hi, h⟩ := ti_sound h
  refine ⟨_, _, h, opsem_new fun X a at_ _ => ?_⟩
  obtain ⟨z, hz, hr, hp⟩ := T.zero hi X.w X
  refine ⟨.pointer (some ⟨X.w.heap.size, 0, none⟩), some X.w.heap.size, X.w.alloc (.cells z.cells t), ?_, rfl, rfl, rfl, by simp, fun n hn => heap_alloc_old X.w _ hn, fun n hn => (Option.some.inj hn) ▸ Nat.le_refl _, fun Y hY W H => ?_⟩
  · simp [execOp, ho, Instr.alloc, hz, newVar, newRow]
  · subst hY
    refine ⟨⟨by simp [AV.fits], X.w.heap.size, z.cells.toList, upd_same .., by simpa using heap_alloc_new X.w (.cells z.cells t), hp.evo W at_.ok.fo⟩, RS.ptr_new (hpSet_same ..) (upd_same ..)⟩

omit T in
theorem box_sound {t : TypeId} {x : Operand} (ho : o.op = .box t x) (h : (E.ti t fun i => if (ev x).isAny then none else if (ev x).fits i.K then k (.ptr fresh []) [(fresh, .var t i.K (ev x))] else none) = some out) :
    ∃ v l, k v l = some out ∧ OpSem P o ev sub fresh v l := by
  obtain ⟨i, hi, h⟩ := ti_sound h
  split at h
  · cases h
  · rename_i hna
    split at h
    · rename_i hf
      have hna' : (ev x).isAny = false := by simpa using hna
      have htup : ∀ vs, ev x ≠ .tup vs := fun vs e => by rw [e] at hf; cases hK : i.K <;> simp [AV.fits] at hf
      refine ⟨_, _, h, opsem_new fun X a at_ _ => ?_⟩
      have h1 := at_.opr x (by simp [Op.operands, ho])
      have h1 : RS0 X (ev x) (a.eval x) := by revert h1 htup; cases ev x <;> intro htup h1 <;> first | exact h1 | exact absurd rfl (htup _)
      obtain ⟨cs, hcs, hcells⟩ := h1.cells hna'
      refine ⟨.pointer (some ⟨X.w.heap.size, 0, none⟩), some X.w.heap.size, X.w.alloc (.cells cs.toArray t), ?_, rfl, rfl, rfl, by simp, fun n hn => heap_alloc_old X.w _ hn, fun n hn => (Option.some.inj hn) ▸ Nat.le_refl _, fun Y hY W H => ?_⟩
      · simp [execOp, ho, Instr.box, newVar, newRow, hcells]
      · subst hY
        exact ⟨⟨hf, X.w.heap.size, cs, upd_same .., heap_alloc_new X.w _, hcs.evo W H at_.ok.fo⟩, RS.ptr_new (hpSet_same ..) (upd_same ..)⟩
    · cases h
end

-- ------------------------------------------------------------ numbers

section
variable {P : Program} {E : Env A} {o : Oper} {ev : Operand → AV} {sub : List (Nat × Blk)} {fresh : Nat} {k : Cont A} {out : A}

theorem eqGuard_int {op : BinOp} {t : TypeId} {x y : Operand} {q q' : IntKind} {a b : Int} (w : World) : (eqGuard op t x y (.int q a) (.int q' b)).run P w = .ok () w := by
  cases op <;> simp [eqGuard]
theorem eqGuard_str {op : BinOp} {t : TypeId} {x y : Operand} {a b : ByteArray} (w : World) : (eqGuard op t x y (.string a) (.string b)).run P w = .ok () w := by
  cases op <;> simp [eqGuard]
theorem eqGuard_bool {op : BinOp} {t : TypeId} {x y : Operand} {a b : Bool} (w : World) : (eqGuard op t x y (.bool a) (.bool b)).run P w = .ok () w := by
  cases op <;> simp [eqGuard]

theorem intOp_sound {op : BinOp} {q : IntKind} {a b : Int} {c : AV → Option A} (hs : op ≠ .shl ∧ op ≠ .shr) (h : intOp op q a b c = some out) :
    ∃ v, c v = some out ∧ ∀ (t : TypeId) (w : World) (X : Cx), ∃ u, (binOp op t (.int q a) (.int q b)).run P w = .ok u w ∧ RS X v u := by
  cases op <;> simp only [intOp] at h <;> first
    | exact absurd rfl hs.1
    | exact absurd rfl hs.2
    | (cases h; done)
    | (split at h
       · cases h
       · rename_i hb
         refine ⟨_, h, fun t w X => ⟨_, ?_, RS.int.2 rfl⟩⟩
         simp [binOp, Op.intDiv, hb])
    | exact ⟨_, h, fun t w X => ⟨_, by simp [binOp, Op.intArith, iand_def, ior_def, ixor_def, iandNot_def] <;> rfl, RS.int.2 rfl⟩⟩
    | exact ⟨_, h, fun t w X => ⟨_, by simp only [iand_def, ior_def, ixor_def, iandNot_def]; simp [binOp, Op.intBits] <;> rfl, RS.int.2 rfl⟩⟩
    | exact ⟨_, h, fun t w X => ⟨_, by simp [binOp, Op.intCmp] <;> rfl, RS.bool.2 rfl⟩⟩

theorem strOp_sound {op : BinOp} {a b : ByteArray} {c : AV → Option A} (h : strOp op a b c = some out) :
    ∃ v, c v = some out ∧ ∀ (t : TypeId) (w : World) (X : Cx), ∃ u, (binOp op t (.string a) (.string b)).run P w = .ok u w ∧ RS X v u := by
  cases op <;> simp only [strOp] at h <;> first
    | (cases h; done)
    | (split at h
       · rename_i hb
         refine ⟨_, h, fun t w X => ⟨_, ?_, RS.str.2 rfl⟩⟩
         have : ¬ ((a.size + b.size : Nat) : Int) > IntKind.i64.max := by
           have e : IntKind.i64.max = 9223372036854775807 := by decide
           rw [e]; omega
         simp only [binOp, Op.stringOp]
         rw [if_neg this]; rfl
       · cases h)
    | exact ⟨_, h, fun t w X => ⟨_, by simp [binOp, Op.stringOp] <;> rfl, RS.bool.2 rfl⟩⟩
end

end Go.Ev
end

section
/-
  THE EVALUATOR's OPERATIONS ARE THE MODEL's, MORE: data held against data; parts of data; loads.
-/
namespace Go.Ev

theorem extract_cut (cs : List Value) (off n : Nat) : (cs.toArray.extract off (off + n)) = (cut cs off n).toArray := by
  apply Array.ext'
  simp [cut, List.extract]

theorem cut_one {cs : List Value} {off : Nat} {v : Value} (h : cut cs off 1 = [v]) : cs[off]? = some v := by
  have : (cut cs off 1)[0]? = some v := by rw [h]; rfl
  simpa [cut] using this

theorem cut_get {cs : List Value} {off n j : Nat} {v : Value} (h : (cut cs off n)[j]? = some v) : cs[off + j]? = some v := by
  simp only [cut, List.getElem?_take] at h
  split at h
  · simpa using h
  · cases h

theorem fits_size {av : AV} {K : Kind} (h : av.fits K = true) (ha : K.isAgg = false) : K.size = 1 := by
  cases K <;> simp [Kind.isAgg] at ha <;> rfl

theorem toList_inj {a b : ByteArray} : a.toList = b.toList ↔ a = b := by
  rw [ByteArray.toList_eq, ByteArray.toList_eq]
  constructor
  · intro h; obtain ⟨a⟩ := a; obtain ⟨b⟩ := b; congr 1; exact Array.ext' h
  · rintro rfl; rfl

variable {A : Type}

section
variable {P : Program} {E : Env A} (T : TyOK P E) {X : Cx}
include T

theorem part_sound {t : TypeId} {i : TI} (hi : E.ty.lookup t = some i) {y : AV} {cs : List Value} {off : Nat} (hf : y.fits i.K = true) (h : RA X y (cut cs off i.K.size)) (w : World) :
    ∃ v, (part t cs.toArray off).run P w = .ok v w ∧ RS0 X y v := by
  cases ha : i.K.isAgg with
  | true =>
    refine ⟨.agg (cut cs off i.K.size).toArray, ?_, ?_⟩
    · simp [part, T.agg hi, ha, T.runSize hi]
      rfl
    · cases hy : y.isAny with
      | true => exact .inl hy
      | false => exact .inr ⟨_, h, .inl ⟨by rw [fits_agg hf hy, ha], rfl⟩⟩
  | false =>
    have h1 := fits_size hf ha
    have hl := RA.length hf h
    rw [h1] at h hl
    match hc : cut cs off 1, hl with
    | [v], _ =>
      have h2 := cut_one hc
      refine ⟨v, ?_, ?_⟩
      · simp [part, T.agg hi, ha, h2]
      · cases hy : y.isAny with
        | true => exact .inl hy
        | false => exact .inr ⟨[v], by rw [hc] at h; exact h, .inr ⟨by rw [fits_agg hf hy, ha], rfl⟩⟩

theorem load_sound {t : TypeId} {i : TI} (hi : E.ty.lookup t = some i) {y : AV} {cs : List Value} {ad : Addr} (hf : y.fits i.K = true) (h : RA X y cs) {w : World}
    (hc : ∀ j u, cs[j]? = some u → w.cell? (ad.add j) = some u) : ∃ v, (loadVar t ad).run P w = .ok v w ∧ RS0 X y v := by
  have hl := RA.length hf h
  cases ha : i.K.isAgg with
  | true =>
    refine ⟨.agg cs.toArray, ?_, ?_⟩
    · have := run_loadCells_list (P := P) w ad cs hc
      rw [hl] at this
      simp [loadVar, T.agg hi, ha, T.runSize hi, this]
    · cases hy : y.isAny with
      | true => exact .inl hy
      | false => exact .inr ⟨_, h, .inl ⟨by rw [fits_agg hf hy, ha], rfl⟩⟩
  | false =>
    rw [fits_size hf ha] at hl
    match cs, hl with
    | [v], _ =>
      have h2 : w.cell? ad = some v := hc 0 v rfl
      refine ⟨v, ?_, ?_⟩
      · simp [loadVar, T.agg hi, ha, h2]
      · cases hy : y.isAny with
        | true => exact .inl hy
        | false => exact .inr ⟨[v], h, .inr ⟨by rw [fits_agg hf hy, ha], rfl⟩⟩

omit T in
/-- Data in one value, taken apart. -/
theorem RS0.data {K : Kind} {x : K.den} {v : Value} (h : RS0 X (.p K x) v) : ∃ cs, RP X.F X.w K x cs ∧ ((K.isAgg = true ∧ v = .agg cs.toArray) ∨ (K.isAgg = false ∧ cs = [v])) := by
  rcases h with h | ⟨cs, h1, h2⟩
  · cases h
  · exact ⟨cs, h1, h2⟩

theorem eqItems_sound {d : Nat} {e : TypeId} {j : TI} (hj : E.ty.lookup e = some j) {l1 l2 : List j.K.den} {css1 css2 : List (List Value)} (h1 : All2 (RP X.F X.w j.K) l1 css1) (h2 : All2 (RP X.F X.w j.K) l2 css2)
    (ih : ∀ (x y : j.K.den) (a b : Value) (w : World), RS0 X (.p j.K x) a → RS0 X (.p j.K y) b → ∃ r : Bool, (Op.equalIn d e a b).run P w = .ok r w ∧ (r = true ↔ x = y)) (w : World) :
    ∀ is : List Nat, (∀ i ∈ is, i < l1.length ∧ i < l2.length) → ∃ r : Bool, (Op.eqItems d e (P.cellsOf e) css1.flatten.toArray css2.flatten.toArray is).run P w = .ok r w ∧ (r = true ↔ ∀ i ∈ is, l1[i]? = l2[i]?)
  | [], _ => ⟨true, by simp [Op.eqItems], by simp⟩
  | i :: is, hb => by
    obtain ⟨hb1, hb2⟩ := hb i (by simp)
    obtain ⟨c1, hc1, hr1⟩ := h1.get (List.getElem?_eq_getElem hb1)
    obtain ⟨c2, hc2, hr2⟩ := h2.get (List.getElem?_eq_getElem hb2)
    have e1 : cut css1.flatten (i * P.cellsOf e) j.K.size = c1 := by
      rw [T.cellsOf hj]
      have := flatten_cut h1.lens hc1 (o := 0) (n := j.K.size) (by omega)
      rw [Nat.add_zero] at this
      rw [this, cut_all _ (RP.length hr1).symm]
    have e2 : cut css2.flatten (i * P.cellsOf e) j.K.size = c2 := by
      rw [T.cellsOf hj]
      have := flatten_cut h2.lens hc2 (o := 0) (n := j.K.size) (by omega)
      rw [Nat.add_zero] at this
      rw [this, cut_all _ (RP.length hr2).symm]
    obtain ⟨a, p1, f1⟩ := part_sound T hj (X := X) (y := .p j.K l1[i]) (by simp [AV.fits]) (by rw [e1]; exact hr1) w
    obtain ⟨b, p2, f2⟩ := part_sound T hj (X := X) (y := .p j.K l2[i]) (by simp [AV.fits]) (by rw [e2]; exact hr2) w
    obtain ⟨r, hr, hiff⟩ := ih _ _ a b w f1 f2
    obtain ⟨r', hr', hiff'⟩ := eqItems_sound hj h1 h2 ih w is fun i hi => hb i (by simp [hi])
    simp only [Op.eqItems, Sem.run_bind, p1, p2, hr, Result.andThen_ok]
    cases r
    · refine ⟨false, by simp, by simp; intro h; exact absurd h (by simpa [List.getElem?_eq_getElem hb1, List.getElem?_eq_getElem hb2] using hiff)⟩
    · refine ⟨r', by simpa using hr', ?_⟩
      rw [hiff']
      have := hiff.1 rfl
      simp [List.getElem?_eq_getElem hb1, List.getElem?_eq_getElem hb2, this]

theorem eqFields_sound {d : Nat} {cs1 cs2 : List Value} {Q : TypeId → Prop}
    (ih : ∀ (t : TypeId) (i : TI), E.ty.lookup t = some i → Q t → ∀ (x y : i.K.den) (a b : Value) (w : World), RS0 X (.p i.K x) a → RS0 X (.p i.K y) b → ∃ r : Bool, (Op.equalIn d t a b).run P w = .ok r w ∧ (r = true ↔ x = y)) (w : World) :
    ∀ (fs : List Field) (ts : List TypeId) (K : Kind) (off : Nat) (x y : K.den), fieldsB E.ty fs ts K off = true → (∀ f ∈ fs, f.name ≠ "_" ∧ Q f.type) →
      RP X.F X.w K x (cs1.drop off) → RP X.F X.w K y (cs2.drop off) → ∃ r : Bool, (Op.eqFields d cs1.toArray cs2.toArray fs).run P w = .ok r w ∧ (r = true ↔ x = y)
  | [], [], .unit, off, x, y, _, _, _, _ => ⟨true, by simp [Op.eqFields], by simp⟩
  | f :: fs, t :: ts, .pair a b, off, x, y, hb, hn, hx, hy => by
    simp only [fieldsB, Bool.and_eq_true, beq_iff_eq, decide_eq_true_eq] at hb
    obtain ⟨⟨⟨⟨rfl, rfl⟩, hpos⟩, hl⟩, hb⟩ := hb
    obtain ⟨j, hj, hjK⟩ : ∃ j, E.ty.lookup f.type = some j ∧ j.K = a := by
      cases h : E.ty.lookup f.type with
      | none => rw [h] at hl; cases hl
      | some j => rw [h] at hl; exact ⟨j, rfl, by simpa using hl⟩
    subst hjK
    obtain ⟨c1, c1', e1, hx1, hx2⟩ := hx
    obtain ⟨c2, c2', e2, hy1, hy2⟩ := hy
    have l1 := RP.length hx1; have l2 := RP.length hy1
    have q1 : cut cs1 f.offset j.K.size = c1 := by unfold cut; rw [e1, ← l1]; simp
    have q2 : cut cs2 f.offset j.K.size = c2 := by unfold cut; rw [e2, ← l2]; simp
    have d1 : cs1.drop (f.offset + j.K.size) = c1' := by rw [← List.drop_drop, e1, ← l1]; simp
    have d2 : cs2.drop (f.offset + j.K.size) = c2' := by rw [← List.drop_drop, e2, ← l2]; simp
    obtain ⟨a1, p1, f1⟩ := part_sound T hj (X := X) (y := .p j.K x.1) (by simp [AV.fits]) (by rw [q1]; exact hx1) w
    obtain ⟨a2, p2, f2⟩ := part_sound T hj (X := X) (y := .p j.K y.1) (by simp [AV.fits]) (by rw [q2]; exact hy1) w
    obtain ⟨hn1, hn2⟩ := hn f (by simp)
    obtain ⟨r, hr, hiff⟩ := ih f.type j hj hn2 _ _ a1 a2 w f1 f2
    obtain ⟨r', hr', hiff'⟩ := eqFields_sound ih w fs ts b _ x.2 y.2 hb (fun g hg => hn g (by simp [hg])) (by rw [d1]; exact hx2) (by rw [d2]; exact hy2)
    simp only [Op.eqFields, if_pos hn1, Sem.run_bind, p1, p2, hr, Result.andThen_ok]
    have hp : x = y ↔ x.1 = y.1 ∧ x.2 = y.2 := Prod.ext_iff
    cases r
    · refine ⟨false, by simp, ?_⟩
      rw [hp]; constructor
      · intro h; cases h
      · rintro ⟨h, _⟩; exact hiff.2 h
    · refine ⟨r', by simpa using hr', ?_⟩
      rw [hiff', hp]; simp [hiff.1 rfl]
  | [], _ :: _, _, _, _, _, hb, _, _, _ => by simp [fieldsB] at hb
  | _ :: _, [], _, _, _, _, hb, _, _, _ => by simp [fieldsB] at hb
  | [], [], .int _, _, _, _, hb, _, _, _ => by simp [fieldsB] at hb
  | [], [], .bool, _, _, _, hb, _, _, _ => by simp [fieldsB] at hb
  | [], [], .str, _, _, _, hb, _, _, _ => by simp [fieldsB] at hb
  | [], [], .opq, _, _, _, hb, _, _, _ => by simp [fieldsB] at hb
  | [], [], .pair _ _, _, _, _, hb, _, _, _ => by simp [fieldsB] at hb
  | [], [], .arr _ _, _, _, _, hb, _, _, _ => by simp [fieldsB] at hb
  | [], [], .sl _, _, _, _, hb, _, _, _ => by simp [fieldsB] at hb
  | _ :: _, _ :: _, .int _, _, _, _, hb, _, _, _ => by simp [fieldsB] at hb
  | _ :: _, _ :: _, .bool, _, _, _, hb, _, _, _ => by simp [fieldsB] at hb
  | _ :: _, _ :: _, .str, _, _, _, hb, _, _, _ => by simp [fieldsB] at hb
  | _ :: _, _ :: _, .opq, _, _, _, hb, _, _, _ => by simp [fieldsB] at hb
  | _ :: _, _ :: _, .unit, _, _, _, hb, _, _, _ => by simp [fieldsB] at hb
  | _ :: _, _ :: _, .arr _ _, _, _, _, hb, _, _, _ => by simp [fieldsB] at hb
  | _ :: _, _ :: _, .sl _, _, _, _, hb, _, _, _ => by simp [fieldsB] at hb

/-- '==' of data. -/
theorem equalIn_sound : ∀ (m : Nat) (t : TypeId) (i : TI), E.ty.lookup t = some i → P.keyTypeAt m t = true → ∀ (d : Nat) (x y : i.K.den) (a b : Value) (w : World),
    RS0 X (.p i.K x) a → RS0 X (.p i.K y) b → ∃ r : Bool, (Op.equalIn (d + m) t a b).run P w = .ok r w ∧ (r = true ↔ x = y)
  | 0, _, _, _, hk => by simp [Program.keyTypeAt] at hk
  | m + 1, t, i, hi, hk => by
    intro d x y a b w ha hb
    obtain ⟨ds, hu, hd⟩ := T.desc hi
    obtain ⟨K, td, by', cm⟩ := i
    simp only at x y ha hb hd
    simp only [Program.keyTypeAt, hu] at hk
    obtain ⟨c1, r1, v1⟩ := ha.data
    obtain ⟨c2, r2, v2⟩ := hb.data
    cases ds with
    | bool =>
      cases td <;> cases K <;> simp at hd
      simp only [RP] at r1 r2; subst r1; subst r2
      rcases v1 with ⟨h, _⟩ | ⟨_, h1⟩; · cases h
      rcases v2 with ⟨h, _⟩ | ⟨_, h2⟩; · cases h
      simp at h1 h2; subst h1; subst h2
      exact ⟨_, run_equalIn_bool' w (d + m) t _ _ hu, by simp⟩
    | int k =>
      cases td <;> cases K <;> simp at hd
      simp only [RP] at r1 r2; subst r1; subst r2
      rcases v1 with ⟨h, _⟩ | ⟨_, h1⟩; · cases h
      rcases v2 with ⟨h, _⟩ | ⟨_, h2⟩; · cases h
      simp at h1 h2; subst h1; subst h2
      exact ⟨_, run_equalIn_int w (d + m) t _ k _ _ hu, by simp⟩
    | string =>
      cases td <;> cases K <;> simp at hd
      simp only [RP] at r1 r2; subst r1; subst r2
      rcases v1 with ⟨h, _⟩ | ⟨_, h1⟩; · cases h
      rcases v2 with ⟨h, _⟩ | ⟨_, h2⟩; · cases h
      simp at h1 h2; subst h1; subst h2
      exact ⟨_, run_equalIn_string w (d + m) t _ _ hu, by rw [beq_iff_eq]; exact toList_inj⟩
    | array n e =>
      cases td <;> cases K <;> simp at hd
      rename_i n' e' n'' Ke
      obtain ⟨⟨⟨rfl, rfl⟩, rfl⟩, hd⟩ := hd
      obtain ⟨j, hj, hjK⟩ : ∃ j, E.ty.lookup e = some j ∧ j.K = Ke := by
        cases h : E.ty.lookup e with
        | none => rw [h] at hd; simp at hd
        | some j => rw [h] at hd; simp at hd; exact ⟨j, rfl, hd.1⟩
      subst hjK
      obtain ⟨hl1, css1, rfl, q1⟩ := r1
      obtain ⟨hl2, css2, rfl, q2⟩ := r2
      have h1 := v1.elim (·.2) fun h => absurd h.1 (by simp [Kind.isAgg])
      have h2 := v2.elim (·.2) fun h => absurd h.1 (by simp [Kind.isAgg])
      subst h1; subst h2
      obtain ⟨inf, _, hinf, _⟩ := T.info hj
      obtain ⟨r, hr, hiff⟩ := eqItems_sound T hj q1 q2 (fun x y a b w ha hb => equalIn_sound m e j hj hk d x y a b w ha hb) w (List.range n) (fun i hi => by simp at hi; exact ⟨by rw [hl1]; exact hi, by rw [hl2]; exact hi⟩)
      refine ⟨r, by rw [show d + (m + 1) = (d + m) + 1 from rfl, run_equalIn_array w (d + m) _ _ hu hinf]; exact hr, hiff.trans ⟨fun h => ?_, fun h => by subst h; intro i _; rfl⟩⟩
      apply List.ext_getElem?
      intro i
      by_cases hi : i < n
      · exact h i (by simpa using hi)
      · rw [List.getElem?_eq_none (by rw [hl1]; omega), List.getElem?_eq_none (by rw [hl2]; omega)]
    | struct fs =>
      simp only [Bool.and_eq_true, Bool.not_eq_true'] at hk
      cases td with
      | struct ts =>
        have hd : fieldsB E.ty fs.toList ts K 0 = true := hd
        have hag : K.isAgg = true := by
          cases hf : fs.toList <;> cases ts <;> cases K <;> simp [hf, fieldsB] at hd <;> rfl
        have h1 := v1.elim (·.2) fun h => absurd h.1 (by rw [hag]; simp)
        have h2 := v2.elim (·.2) fun h => absurd h.1 (by rw [hag]; simp)
        subst h1; subst h2
        have hfs : P.fieldsOf t = fs := by simp [Program.fieldsOf, hu]
        obtain ⟨r, hr, hiff⟩ := eqFields_sound T (d := d + m) (cs1 := c1) (cs2 := c2) (Q := fun t => P.keyTypeAt m t = true) (fun t i hi hk' x y a b w ha hb => equalIn_sound m t i hi hk' d x y a b w ha hb) w fs.toList ts K 0 x y hd (fun f hf => by
          have := Array.all_eq_true_iff_forall_mem.1 hk.1.1 f (Array.mem_toList_iff.1 hf)
          simp only [Bool.and_eq_true, bne_iff_ne, ne_eq] at this
          exact ⟨this.1, this.2⟩) (by simpa using r1) (by simpa using r2)
        exact ⟨r, by rw [show d + (m + 1) = (d + m) + 1 from rfl, run_equalIn_struct w (d + m) t _ _ (by rw [hfs]; exact hu) hk.2, hfs]; exact hr, hiff⟩
      | prim => cases K <;> simp at hd
      | slice _ => cases K <;> simp at hd
      | array _ _ => cases K <;> simp at hd
      | map _ _ => cases K <;> simp at hd
      | ptr _ => cases K <;> simp at hd
      | other => cases K <;> simp at hd
    | _ => simp at hk

end
end Go.Ev
end

section
/-
  THE EVALUATOR's OPERATIONS ARE THE MODEL's, MORE: '==', numbers, addresses, loads, lengths.
-/
namespace Go.Ev
variable {A : Type}

theorem RS.of0 {X : Cx} {av : AV} {v : Value} (h : RS0 X av v) (ht : ∀ vs, av ≠ .tup vs) : RS X av v := by
  cases av <;> first | exact h | exact absurd rfl (ht _)

theorem RS.to0 {X : Cx} {av : AV} {v : Value} (h : RS X av v) (ht : ∀ vs, av ≠ .tup vs) : RS0 X av v := by
  cases av <;> first | exact h | exact absurd rfl (ht _)

theorem fits_noTup {av : AV} {K : Kind} (h : av.fits K = true) : ∀ vs, av ≠ .tup vs := fun vs e => by
  subst e; cases K <;> simp [AV.fits] at h

section
variable {P : Program} {E : Env A} (T : TyOK P E) {o : Oper} {ev : Operand → AV} {sub : List (Nat × Blk)} {fresh : Nat} {k : Cont A} {out : A}

theorem shift_run {q : IntKind} {a b : Int} {yk : IntKind} {t : TypeId} (hb : ¬ b < 0) (w : World) :
    (binOp .shl t (.int q a) (.int yk b)).run P w = .ok (.int q (shl q a b)) w ∧ (binOp .shr t (.int q a) (.int yk b)).run P w = .ok (.int q (shr q a b)) w := by
  constructor <;> simp [binOp, Op.shift, hb, shl, shr]

include T in
theorem TyOK.cmpKind {t : TypeId} {i : TI} (hi : E.ty.lookup t = some i) (hc : i.cmp = true) (ha : i.K.isAgg = false) : (∃ q, i.K = .int q) ∨ i.K = .bool ∨ i.K = .str := by
  obtain ⟨ds, hu, hd⟩ := T.desc hi
  have hk := (T.cmp hi hc).1
  rw [show (100 : Nat) = 99 + 1 from rfl] at hk
  unfold Program.keyTypeAt at hk
  rw [hu] at hk
  obtain ⟨K, td, by', cm⟩ := i
  simp only at hd ha ⊢
  cases K with
  | int q => exact .inl ⟨q, rfl⟩
  | bool => exact .inr (.inl rfl)
  | str => exact .inr (.inr rfl)
  | opq =>
    exfalso
    cases ds <;> cases td <;> first
      | (simp at hd; done)
      | (simp at hk; done)
      | (rename_i fs ts; cases hf : fs.toList <;> cases ts <;> simp [hf, fieldsB] at hd)
  | sl e =>
    exfalso
    cases ds <;> cases td <;> first
      | (simp at hd; done)
      | (simp at hk; done)
      | (rename_i fs ts; cases hf : fs.toList <;> cases ts <;> simp [hf, fieldsB] at hd)
  | unit => simp [Kind.isAgg] at ha
  | pair a b => simp [Kind.isAgg] at ha
  | arr n e => simp [Kind.isAgg] at ha

theorem dec_eq {K : Kind} {x y : K.den} {r : Bool} (h : r = true ↔ x = y) : @decide (x = y) (K.dec x y) = r := by
  cases r
  · exact @decide_eq_false _ (K.dec x y) fun h' => by have := h.2 h'; cases this
  · exact @decide_eq_true _ (K.dec x y) (h.1 rfl)

include T in
theorem eq_data {t : TypeId} {i : TI} (hi : E.ty.lookup t = some i) (hc : i.cmp = true) {X : Cx} {x y : i.K.den} {a b : Value} (ha : RS0 X (.p i.K x) a) (hb : RS0 X (.p i.K y) b)
    {x' y' : Operand} (w : World) :
    (eqGuard .eql t x' y' a b).run P w = .ok () w ∧ (eqGuard .neq t x' y' a b).run P w = .ok () w ∧
    (binOp .eql t a b).run P w = .ok (.bool (@decide (x = y) (i.K.dec x y))) w ∧ (binOp .neq t a b).run P w = .ok (.bool (!@decide (x = y) (i.K.dec x y))) w := by
  obtain ⟨hk, hg⟩ := T.cmp hi hc
  obtain ⟨r, hr, hiff⟩ := equalIn_sound T 100 t i hi hk 9900 x y a b w ha hb
  have hr' : (Op.equalIn 10000 t a b).run P w = .ok r w := hr
  rw [dec_eq hiff]
  obtain ⟨c1, r1, v1⟩ := ha.data
  obtain ⟨c2, r2, v2⟩ := hb.data
  rcases v1 with ⟨g1, rfl⟩ | ⟨g1, h1⟩
  · rcases v2 with ⟨_, rfl⟩ | ⟨g2, _⟩
    · refine ⟨run_eqGuard_agg w .eql t x' y' _ _ hg, run_eqGuard_agg w .neq t x' y' _ _ hg, ?_, ?_⟩
      · rw [run_eql_struct, hr']; rfl
      · rw [run_neq_struct, hr']; rfl
    · rw [g1] at g2; cases g2
  · rcases v2 with ⟨g2, _⟩ | ⟨g2, h2⟩
    · rw [g1] at g2; cases g2
    · subst h1; subst h2
      have hkind := T.cmpKind hi hc g1
      obtain ⟨K, td, by', cm⟩ := i
      simp only at x y hkind r1 r2 hiff
      rcases hkind with ⟨q, rfl⟩ | rfl | rfl
      · simp only [RP] at r1 r2
        simp at r1 r2
        subst r1; subst r2
        have e : (x == y) = r := by rw [Bool.eq_iff_iff, hiff]; exact beq_iff_eq
        exact ⟨eqGuard_int w, eqGuard_int w, by simp [binOp, Op.intCmp, e], by simp [binOp, Op.intCmp, bne, e]⟩
      · simp only [RP] at r1 r2
        simp at r1 r2
        subst r1; subst r2
        exact ⟨eqGuard_bool w, eqGuard_bool w, by simp [binOp, Op.equal, Op.maxDepth, hr'], by simp [binOp, Op.equal, Op.maxDepth, hr']⟩
      · simp only [RP] at r1 r2
        simp at r1 r2
        subst r1; subst r2
        have e : (x.toList == y.toList) = r := by rw [Bool.eq_iff_iff, hiff, beq_iff_eq]; exact toList_inj
        exact ⟨eqGuard_str w, eqGuard_str w, by simp only [binOp, Op.stringOp, e]; rfl, by simp only [binOp, Op.stringOp, e]; rfl⟩

include T in
theorem bin_sound {op : BinOp} {t yt : TypeId} {x y : Operand} (ho : o.op = .binOp op t x y yt) (h : binK E op t (ev x) (ev y) (fun v => k v []) = some out) : ∃ v l, k v l = some out ∧ OpSem P o ev sub fresh v l := by
  have mx : x ∈ o.op.operands := by simp [Op.operands, ho]
  have my : y ∈ o.op.operands := by simp [Op.operands, ho]
  unfold binK at h
  split at h
  · rename_i K x0 K' y0 ex ey
    split at h
    · rename_i q a q' b
      have fin : ∀ v : AV, (∀ (a' b' : Value) (w : World) (X : Cx), a' = .int q a → b' = .int q' b → ∃ u, (binOp op t a' b').run P w = .ok u w ∧ RS X v u) → OpSem P o ev sub fresh v [] := fun v hv => opsem_value fun X ac at_ => by
        have h1 := at_.opr x mx; rw [ex, RS.int] at h1
        have h2 := at_.opr y my; rw [ey, RS.int] at h2
        obtain ⟨u, hu, hr⟩ := hv _ _ X.w X h1 h2
        exact ⟨u, by simp [execOp, ho, h1, h2, eqGuard_int]; rw [← h1, ← h2, hu]; rfl, hr⟩
      split at h
      · split at h
        · cases h
        · rename_i hb; exact ⟨_, _, h, fin _ fun a' b' w X ha hb' => ⟨_, by rw [ha, hb']; exact (shift_run hb w).1, RS.int.2 rfl⟩⟩
      · split at h
        · cases h
        · rename_i hb; exact ⟨_, _, h, fin _ fun a' b' w X ha hb' => ⟨_, by rw [ha, hb']; exact (shift_run hb w).2, RS.int.2 rfl⟩⟩
      · rename_i n1 n2
        split at h
        · rename_i hq; subst hq
          obtain ⟨v, hv, hs⟩ := intOp_sound (P := P) ⟨fun e => n1 e, fun e => n2 e⟩ h
          exact ⟨_, _, hv, fin _ fun a' b' w X ha hb' => by rw [ha, hb']; exact hs t w X⟩
        · cases h
    · rename_i a b
      obtain ⟨v, hv, hs⟩ := strOp_sound (P := P) h
      refine ⟨_, _, hv, opsem_value fun X ac at_ => ?_⟩
      have h1 := at_.opr x mx; rw [ex, RS.str] at h1
      have h2 := at_.opr y my; rw [ey, RS.str] at h2
      obtain ⟨u, hu, hr⟩ := hs t X.w X
      exact ⟨u, by simp [execOp, ho, h1, h2, eqGuard_str, hu], hr⟩
    · rename_i n1 n2
      split at h
      · rename_i hK; subst hK
        obtain ⟨i, hi, h⟩ := ti_sound h
        split at h
        · rename_i hc
          simp only [Bool.and_eq_true, decide_eq_true_eq] at hc
          obtain ⟨hc, rfl⟩ := hc
          have fin : ∀ (b : Bool → Bool) (op' : BinOp), op = op' → (op' = .eql ∧ b = id ∨ op' = .neq ∧ b = not) → OpSem P o ev sub fresh (.p .bool (b (@decide (x0 = y0) (i.K.dec x0 y0)))) [] := fun bf op' hop hcase => opsem_value fun X ac at_ => by
            have h1 := (at_.opr x mx); rw [ex] at h1
            have h2 := (at_.opr y my); rw [ey] at h2
            have g1 := h1.to0 (by simp)
            have g2 := h2.to0 (by simp)
            obtain ⟨q1, q2, q3, q4⟩ := eq_data T hi hc g1 g2 (x' := x) (y' := y) X.w
            refine ⟨_, ?_, RS.bool.2 rfl⟩
            rcases hcase with ⟨rfl, rfl⟩ | ⟨rfl, rfl⟩
            · subst hop; simp [execOp, ho, q1, q3]
            · subst hop; simp [execOp, ho, q2, q4]
          split at h
          · exact ⟨_, _, h, fin id .eql rfl (.inl ⟨rfl, rfl⟩)⟩
          · exact ⟨_, _, h, fin not .neq rfl (.inr ⟨rfl, rfl⟩)⟩
          · cases h
        · cases h
      · cases h
  · cases h

end
end Go.Ev
end

section
/-
  THE EVALUATOR's OPERATIONS ARE THE MODEL's, MORE: one operand, addresses, loads, parts, slices, lengths.
-/
namespace Go.Ev
variable {A : Type}

theorem kat_nil (K : Kind) : kat K [] = some K := by cases K <;> rfl

theorem kat_koff : ∀ {K : Kind} {path : List Hop} {off : Nat} {K' : Kind}, koff K path = some (off, K') → kat K path = some K'
  | K, [], off, K', h => by rw [koff_nil] at h; simp at h; obtain ⟨rfl, rfl⟩ := h; exact kat_nil _
  | .pair a b, .fld 0 :: r, off, K', h => by simpa [kat] using kat_koff (K := a) (path := r) (by simpa [koff] using h)
  | .pair a b, .fld (n + 1) :: r, off, K', h => by
    simp only [koff, Option.map_eq_some_iff, Prod.exists, Prod.mk.injEq] at h
    obtain ⟨o, k, h, rfl, rfl⟩ := h
    simpa [kat] using kat_koff h
  | .arr n e, .idx i :: r, off, K', h => by
    simp only [koff] at h
    split at h
    · simp only [Option.map_eq_some_iff, Prod.exists, Prod.mk.injEq] at h
      obtain ⟨o, k, h, rfl, rfl⟩ := h
      simpa [kat] using kat_koff h
    · cases h
  | .int _, .fld _ :: _, _, _, h => by simp [koff] at h
  | .int _, .idx _ :: _, _, _, h => by simp [koff] at h
  | .bool, .fld _ :: _, _, _, h => by simp [koff] at h
  | .bool, .idx _ :: _, _, _, h => by simp [koff] at h
  | .str, .fld _ :: _, _, _, h => by simp [koff] at h
  | .str, .idx _ :: _, _, _, h => by simp [koff] at h
  | .opq, .fld _ :: _, _, _, h => by simp [koff] at h
  | .opq, .idx _ :: _, _, _, h => by simp [koff] at h
  | .unit, .fld _ :: _, _, _, h => by simp [koff] at h
  | .unit, .idx _ :: _, _, _, h => by simp [koff] at h
  | .sl _, .fld _ :: _, _, _, h => by simp [koff] at h
  | .sl _, .idx _ :: _, _, _, h => by simp [koff] at h
  | .pair _ _, .idx _ :: _, _, _, h => by simp [koff] at h
  | .arr _ _, .fld _ :: _, _, _, h => by simp [koff] at h

theorem koff_append {q : List Hop} {o : Nat} {K'' : Kind} : ∀ {K : Kind} {path : List Hop} {off : Nat} {K' : Kind}, koff K path = some (off, K') → koff K' q = some (o, K'') → koff K (path ++ q) = some (off + o, K'')
  | K, [], off, K', h, hq => by rw [koff_nil] at h; simp at h; obtain ⟨rfl, rfl⟩ := h; simpa using hq
  | .pair a b, .fld 0 :: r, off, K', h, hq => by simpa [koff] using koff_append (K := a) (path := r) (by simpa [koff] using h) hq
  | .pair a b, .fld (n + 1) :: r, off, K', h, hq => by
    simp only [koff, Option.map_eq_some_iff, Prod.exists, Prod.mk.injEq] at h
    obtain ⟨o', k, h, rfl, rfl⟩ := h
    have := koff_append h hq
    simp only [List.cons_append] at this ⊢
    simp [koff, this, Nat.add_assoc]
  | .arr n e, .idx i :: r, off, K', h, hq => by
    simp only [koff] at h
    split at h
    · rename_i hi
      simp only [Option.map_eq_some_iff, Prod.exists, Prod.mk.injEq] at h
      obtain ⟨o', k, h, rfl, rfl⟩ := h
      have := koff_append h hq
      simp [koff, this, hi, Nat.add_assoc]
    · cases h
  | .int _, .fld _ :: _, _, _, h, _ => by simp [koff] at h
  | .int _, .idx _ :: _, _, _, h, _ => by simp [koff] at h
  | .bool, .fld _ :: _, _, _, h, _ => by simp [koff] at h
  | .bool, .idx _ :: _, _, _, h, _ => by simp [koff] at h
  | .str, .fld _ :: _, _, _, h, _ => by simp [koff] at h
  | .str, .idx _ :: _, _, _, h, _ => by simp [koff] at h
  | .opq, .fld _ :: _, _, _, h, _ => by simp [koff] at h
  | .opq, .idx _ :: _, _, _, h, _ => by simp [koff] at h
  | .unit, .fld _ :: _, _, _, h, _ => by simp [koff] at h
  | .unit, .idx _ :: _, _, _, h, _ => by simp [koff] at h
  | .sl _, .fld _ :: _, _, _, h, _ => by simp [koff] at h
  | .sl _, .idx _ :: _, _, _, h, _ => by simp [koff] at h
  | .pair _ _, .idx _ :: _, _, _, h, _ => by simp [koff] at h
  | .arr _ _, .fld _ :: _, _, _, h, _ => by simp [koff] at h

theorem look_sound {out : A} {sub : List (Nat × Blk)} {id : Nat} {k : Blk → Option A} (h : look sub id k = some out) : ∃ b, sub.lookup id = some b ∧ k b = some out := by
  unfold look at h
  split at h
  · rename_i b hb; exact ⟨b, hb, h⟩
  · cases h

theorem asInt_sound {out : A} {v : AV} {k : Int → Option A} (h : asInt v k = some out) : ∃ (q : IntKind) (n : Int), v = .p (.int q) n ∧ k n = some out := by
  unfold asInt at h
  split at h
  · exact ⟨_, _, rfl, h⟩
  · cases h

theorem add_lit (b o n : Nat) : (⟨b, o, none⟩ : Addr).add n = ⟨b, o + n, none⟩ := Addr.add_lit b o n

theorem koff_idx {n : Nat} {e : Kind} {i : Nat} (h : i < n) : koff (.arr n e) [.idx i] = some (i * e.size, e) := by
  simp [koff, h, koff_nil]

/-- An address into a block of ours, and one step on. -/
theorem kindAt_sound {out : A} {sub : List (Nat × Blk)} {id : Nat} {path : List Hop} {k : Kind → Option A} (h : kindAt sub id path k = some out) :
    ∃ K', k K' = some out ∧ ∀ (X : Cx) (v : Value), (∀ (id : Nat) (b : Blk), sub.lookup id = some b → X.hp[id]? = some b) → R1 X (.ptr id path) v →
      ∃ b off, v = .pointer (some ⟨b, off, none⟩) ∧ ∀ q o K'', koff K' q = some (o, K'') → R1 X (.ptr id (path ++ q)) (.pointer (some ⟨b, off + o, none⟩)) := by
  obtain ⟨B, hB, h⟩ := look_sound h
  split at h
  · rename_i t K av
    split at h
    · rename_i K' hk
      refine ⟨K', h, fun X v hs hr => ?_⟩
      have hX := hs id _ hB
      obtain ⟨b, off, K1, h1, h2, rfl⟩ := (R1_ptr hX).1 hr
      have : K1 = K' := by have := kat_koff h2; rw [hk] at this; exact (Option.some.inj this).symm
      subst this
      exact ⟨b, off, rfl, fun q o K'' ho => (R1_ptr hX).2 ⟨b, off + o, K'', h1, koff_append h2 ho, rfl⟩⟩
    · cases h
  · rename_i t K xs
    split at h
    · rename_i i r _
      split at h
      · rename_i K' hk
        refine ⟨K', h, fun X v hs hr => ?_⟩
        have hX := hs id _ hB
        obtain ⟨b, i', r', off, K1, hp, hi, h1, h2, rfl⟩ := (R1_ptrR hX).1 hr
        simp only [List.cons.injEq, Hop.idx.injEq] at hp
        obtain ⟨rfl, rfl⟩ := hp
        have : K1 = K' := by have := kat_koff h2; rw [hk] at this; exact (Option.some.inj this).symm
        subst this
        exact ⟨b, _, rfl, fun q o K'' ho => (R1_ptrR hX).2 ⟨b, i, r ++ q, off + o, K'', by simp, hi, h1, koff_append h2 ho, by rw [Nat.add_assoc]⟩⟩
      · cases h
    · cases h
  · cases h

theorem fieldsB_get {tys : List (TypeId × TI)} : ∀ {fs : List Field} {ts : List TypeId} {K : Kind} {off i : Nat}, fieldsB tys fs ts K off = true → i < ts.length →
    ∃ f j o, fs[i]? = some f ∧ tys.lookup f.type = some j ∧ 0 < j.K.size ∧ f.offset = off + o ∧ koff K [.fld i] = some (o, j.K)
  | f :: fs, t :: ts, .pair a b, off, i, hb, hi => by
    simp only [fieldsB, Bool.and_eq_true, beq_iff_eq, decide_eq_true_eq] at hb
    obtain ⟨⟨⟨⟨rfl, rfl⟩, hpos⟩, hl⟩, hb⟩ := hb
    obtain ⟨j, hj, hjK⟩ : ∃ j, tys.lookup f.type = some j ∧ j.K = a := by
      cases h : tys.lookup f.type with
      | none => rw [h] at hl; cases hl
      | some j => rw [h] at hl; exact ⟨j, rfl, by simpa using hl⟩
    subst hjK
    cases i with
    | zero => exact ⟨f, j, 0, rfl, hj, hpos, rfl, by simp [koff, koff_nil]⟩
    | succ i =>
      obtain ⟨g, j', o, h1, h2, h3, h4, h5⟩ := fieldsB_get hb (by simpa using hi)
      exact ⟨g, j', j.K.size + o, by simpa using h1, h2, h3, by rw [h4, Nat.add_assoc], by simp [koff, h5]⟩
  | [], [], _, _, _, _, hi => by simp at hi
  | _ :: _, [], _, _, _, _, hi => by simp at hi
  | [], _ :: _, _, _, _, hb, _ => by simp [fieldsB] at hb
  | _ :: _, _ :: _, .int _, _, _, hb, _ => by simp [fieldsB] at hb
  | _ :: _, _ :: _, .bool, _, _, hb, _ => by simp [fieldsB] at hb
  | _ :: _, _ :: _, .str, _, _, hb, _ => by simp [fieldsB] at hb
  | _ :: _, _ :: _, .opq, _, _, hb, _ => by simp [fieldsB] at hb
  | _ :: _, _ :: _, .unit, _, _, hb, _ => by simp [fieldsB] at hb
  | _ :: _, _ :: _, .arr _ _, _, _, hb, _ => by simp [fieldsB] at hb
  | _ :: _, _ :: _, .sl _, _, _, hb, _ => by simp [fieldsB] at hb

section
variable {P : Program} {E : Env A} (T : TyOK P E) {o : Oper} {ev : Operand → AV} {sub : List (Nat × Blk)} {fresh : Nat} {k : Cont A} {out : A}

include T in
theorem TyOK.struct {t : TypeId} {i : TI} {ts : List TypeId} (h : E.ty.lookup t = some i) (hd : i.d = .struct ts) : ∃ fs, P.underlying t = some (.struct fs) ∧ fieldsB E.ty fs.toList ts i.K 0 = true := by
  obtain ⟨d, h1, h2⟩ := T.desc h
  obtain ⟨K, td, by', cm⟩ := i
  simp only at hd; subst hd
  cases d <;> first | exact ⟨_, h1, h2⟩ | (simp at h2)

theorem un_sound {op : UnOp} {t : TypeId} {x : Operand} (ho : o.op = .unOp op t x) (h : unK op (ev x) (fun v => k v []) = some out) : ∃ v l, k v l = some out ∧ OpSem P o ev sub fresh v l := by
  have mx : x ∈ o.op.operands := by simp [Op.operands, ho]
  unfold unK at h
  split at h
  · rename_i b ex
    exact ⟨_, _, h, opsem_value fun X ac at_ => by
      have h1 := at_.opr x mx; rw [ex, RS.bool] at h1
      exact ⟨_, by simp [execOp, ho, h1, Op.unary] <;> rfl, RS.bool.2 rfl⟩⟩
  · rename_i q n ex
    exact ⟨_, _, h, opsem_value fun X ac at_ => by
      have h1 := at_.opr x mx; rw [ex, RS.int] at h1
      exact ⟨_, by simp [execOp, ho, h1, Op.unary, Op.intArith] <;> rfl, RS.int.2 (by simp)⟩⟩
  · rename_i q n ex
    exact ⟨_, _, h, opsem_value fun X ac at_ => by
      have h1 := at_.opr x mx; rw [ex, RS.int] at h1
      exact ⟨.int q (ixor0 q (if q.signed then -1 else q.max) n), by simp only [execOp, ho, h1, Op.unary, Op.intBits, Sem.run_bind, Sem.run_pure, Result.andThen_ok]; rfl, RS.int.2 (by rw [ixor_def])⟩⟩
  · cases h

include T in
theorem TyOK.int {t : TypeId} {i : TI} {q : IntKind} (h : E.ty.lookup t = some i) (hd : i.K = .int q) : P.underlying t = some (.int q) := by
  obtain ⟨d, h1, h2⟩ := T.desc h
  obtain ⟨K, td, by', cm⟩ := i
  simp only at hd; subst hd
  cases d <;> cases td <;> simp at h2
  · subst h2; exact h1
  · rename_i fs ts; cases hf : fs.toList <;> cases ts <;> simp [hf, fieldsB] at h2

include T in
theorem TyOK.str {t : TypeId} {i : TI} (h : E.ty.lookup t = some i) (hd : i.K = .str) : P.underlying t = some .string := by
  obtain ⟨d, h1, h2⟩ := T.desc h
  obtain ⟨K, td, by', cm⟩ := i
  simp only at hd; subst hd
  cases d <;> cases td <;> simp at h2
  · exact h1
  · rename_i fs ts; cases hf : fs.toList <;> cases ts <;> simp [hf, fieldsB] at h2

theorem extract_sound {x : Operand} {i : Nat} (ho : o.op = .extract x i) (h : (match ev x with | .tup vs => (match vs[i]? with | some y => k y [] | none => none) | _ => none) = some out) :
    ∃ v l, k v l = some out ∧ OpSem P o ev sub fresh v l := by
  have mx : x ∈ o.op.operands := by simp [Op.operands, ho]
  split at h
  · rename_i vs ex
    split at h
    · rename_i y hy
      exact ⟨_, _, h, opsem_value fun X ac at_ => by
        have h1 := at_.opr x mx; rw [ex] at h1
        obtain ⟨us, h2, h3⟩ := h1
        obtain ⟨u, hu, hr⟩ := h3.get hy
        have hu' : us[i]? = some u := by simpa using hu
        refine ⟨u, by simp [execOp, ho, h2, Instr.extract, hu'], RS.of0 hr fun ws e => ?_⟩
        subst e
        rcases hr with hr | ⟨cs, h4, ⟨h5, _⟩ | ⟨_, h5⟩⟩
        · cases hr
        · cases h5
        · obtain ⟨_, rfl, h6⟩ := h4; exact h6⟩
    · cases h
  · cases h

theorem nilCheck_sound {x : Operand} (ho : o.op = .nilCheck x) (h : (match ev x with | .ptr id q => kindAt sub id q fun _ => k (.ptr id q) [] | .vp K y => k (.vp K y) [] | _ => none) = some out) :
    ∃ v l, k v l = some out ∧ OpSem P o ev sub fresh v l := by
  have mx : x ∈ o.op.operands := by simp [Op.operands, ho]
  split at h
  · rename_i id q ex
    obtain ⟨K', h, hs⟩ := kindAt_sound h
    exact ⟨_, _, h, opsem_value fun X ac at_ => by
      have h1 := at_.opr x mx; rw [ex] at h1
      obtain ⟨b, off, h2, _⟩ := hs X _ at_.sub ((RS.one (by simp) (by simp) (by simp) (by simp)).1 h1)
      exact ⟨_, by simp [execOp, ho, h2], h2 ▸ h1⟩⟩
  · rename_i K y ex
    exact ⟨_, _, h, opsem_value fun X ac at_ => by
      have h1 := at_.opr x mx; rw [ex] at h1
      have h2 := (RS.one (by simp) (by simp) (by simp) (by simp)).1 h1
      obtain ⟨ad, cs, h3, _⟩ := h2
      exact ⟨_, by simp [execOp, ho, h3], h3 ▸ h1⟩⟩
  · cases h

-- ------------------------------------------------------------ addresses

/-- The elements of a slice of data, by address. -/
theorem sl_elem {X : Cx} {K : Kind} {xs : List K.den} {v : Value} (h : RS X (.p (.sl K) xs) v) : ∃ ao cap, v = .slice ao xs.length cap ∧ xs.length ≤ cap ∧
    (0 < xs.length → ∃ ad css, ao = some ad ∧ X.F ad.block ∧ All2 (RP X.F X.w K) xs css ∧ ∀ j u, css.flatten[j]? = some u → X.w.cell? (ad.add j) = some u) := by
  obtain ⟨cs, h1, ⟨h2, _⟩ | ⟨_, h2⟩⟩ := (h.to0 (by simp)).data
  · cases h2
  · obtain ⟨ao, cap, h3, h4, h5⟩ := h1
    rw [h2] at h3; simp at h3
    exact ⟨ao, cap, h3, h4, h5⟩

theorem add_add (a : Addr) (m n : Nat) : (a.add m).add n = a.add (m + n) := by
  unfold Addr.add
  by_cases hm : m = 0
  · subst hm; simp
  · by_cases hn : n = 0
    · subst hn; simp [hm]
    · have : ¬ m + n = 0 := by omega
      simp [hm, hn, this, Nat.add_assoc]

theorem RS.vp {X : Cx} {K : Kind} {y : K.den} {ad : Addr} {cs : List Value} (hF : X.F ad.block) (h : RP X.F X.w K y cs) (hc : ∀ j u, cs[j]? = some u → X.w.cell? (ad.add j) = some u) : RS X (.vp K y) (.pointer (some ad)) :=
  (RS.one (by simp) (by simp) (by simp) (by simp)).2 ⟨ad, cs, rfl, hF, h, hc⟩

/-- An element among the cells of a list of data. -/
theorem elem_cells {F : Nat → Prop} {w w' : World} {K : Kind} {xs : List K.den} {css : List (List Value)} (h : All2 (RP F w K) xs css) {ad : Addr} (hc : ∀ j u, css.flatten[j]? = some u → w'.cell? (ad.add j) = some u) {i : Nat} {y : K.den}
    (hy : xs[i]? = some y) : ∃ cs, RP F w K y cs ∧ ∀ j u, cs[j]? = some u → w'.cell? ((ad.add (i * K.size)).add j) = some u := by
  obtain ⟨cs, h1, h2⟩ := h.get hy
  refine ⟨cs, h2, fun j u hj => ?_⟩
  rw [add_add]
  have hl := RP.length h2
  have hjl : j < cs.length := (List.getElem?_eq_some_iff.1 hj).1
  have e := flatten_cut h.lens h1 (o := 0) (n := K.size) (by omega)
  rw [Nat.add_zero, cut_all cs hl.symm] at e
  exact hc _ _ (cut_get (by rw [e]; exact hj))

include T in
theorem indexAddr_sound {t : TypeId} {x ix : Operand} (ho : o.op = .indexAddr t x ix) (h : indexAddrK E sub t (ev x) (ev ix) (fun v => k v []) = some out) : ∃ v l, k v l = some out ∧ OpSem P o ev sub fresh v l := by
  have mx : x ∈ o.op.operands := by simp [Op.operands, ho]
  have mi : ix ∈ o.op.operands := by simp [Op.operands, ho]
  obtain ⟨q, i, ei, h⟩ := asInt_sound h
  split at h
  · rename_i hi0
    obtain ⟨ti, hti, h⟩ := ti_sound h
    split at h
    · -- an array
      rename_i n e hd
      obtain ⟨hu, j, hj, hK, _⟩ := T.array hti hd
      have run : ∀ (ac : Act) (w : World) (ad : Addr), ac.eval x = .pointer (some ad) → ac.eval ix = .int q i → i < (n : Int) → (execOp ac.eval o).run P w = .ok (.value (.pointer (some (ad.add (i.toNat * j.K.size))))) w := fun ac w ad h1 h2 h3 => by
        simp [execOp, ho, Instr.indexAt, h1, h2, asIntOf, run_underlying hu, Instr.sureAddr, hi0, h3, T.runSize hj]
      split at h
      · rename_i hin
        have hlt : i.toNat < n := by omega
        split at h
        · rename_i id path ex
          obtain ⟨K', h, hs⟩ := kindAt_sound h
          split at h
          · rename_i hKe
            exact ⟨_, _, h, opsem_value fun X ac at_ => by
              have h1 := at_.opr x mx; rw [ex] at h1
              have h2 := at_.opr ix mi; rw [ei, RS.int] at h2
              obtain ⟨b, off, h3, h4⟩ := hs X _ at_.sub ((RS.one (by simp) (by simp) (by simp) (by simp)).1 h1)
              refine ⟨_, run ac X.w _ h3 h2 hin, (RS.one (by simp) (by simp) (by simp) (by simp)).2 ?_⟩
              rw [add_lit]
              exact h4 [.idx i.toNat] _ j.K (by rw [hKe, hK]; exact koff_idx hlt)⟩
          · cases h
        · rename_i n' e' l ex
          split at h
          · rename_i hKe
            obtain ⟨y, hy, h⟩ := Option.bind_eq_some_iff.1 h
            rw [hK] at hKe
            simp only [Kind.arr.injEq] at hKe
            obtain ⟨rfl, rfl⟩ := hKe
            exact ⟨_, _, h, opsem_value fun X ac at_ => by
              have h1 := at_.opr x mx; rw [ex] at h1
              have h2 := at_.opr ix mi; rw [ei, RS.int] at h2
              obtain ⟨ad, cs, h3, hF, ⟨hl, css, rfl, hr⟩, hc⟩ := (RS.one (by simp) (by simp) (by simp) (by simp)).1 h1
              obtain ⟨cs', h5, h6⟩ := elem_cells hr hc hy
              exact ⟨_, run ac X.w _ h3 h2 hin, RS.vp (by rw [add_block]; exact hF) h5 h6⟩⟩
          · cases h
        · cases h
      · cases h
    · -- a slice
      rename_i e hd
      obtain ⟨hu, j, hj, hK, _⟩ := T.slice hti hd
      have run : ∀ (ac : Act) (w : World) (ad : Addr) (len cap : Nat), ac.eval x = .slice (some ad) len cap → ac.eval ix = .int q i → i < (len : Int) → (execOp ac.eval o).run P w = .ok (.value (.pointer (some (ad.add (i.toNat * j.K.size))))) w := fun ac w ad len cap h1 h2 h3 => by
        simp [execOp, ho, Instr.indexAt, h1, h2, asIntOf, run_underlying hu, hi0, h3, T.runSize hj]
      split at h
      · rename_i K xs ex
        split at h
        · rename_i hKe
          obtain ⟨y, hy, h⟩ := Option.bind_eq_some_iff.1 h
          rw [hK] at hKe
          simp only [Kind.sl.injEq] at hKe
          subst hKe
          have h0 := (List.getElem?_eq_some_iff.1 hy).1
          have hlt : i < (xs.length : Int) := (Int.toNat_lt hi0).1 h0
          exact ⟨_, _, h, opsem_value fun X ac at_ => by
            have h1 := at_.opr x mx; rw [ex] at h1
            have h2 := at_.opr ix mi; rw [ei, RS.int] at h2
            obtain ⟨ao, cap, h3, _, h4⟩ := sl_elem h1
            obtain ⟨ad, css, rfl, hF, hr, hc⟩ := h4 (Nat.lt_of_le_of_lt (Nat.zero_le _) h0)
            obtain ⟨cs', h5, h6⟩ := elem_cells hr hc hy
            exact ⟨_, run ac X.w _ _ _ h3 h2 hlt, RS.vp (by rw [add_block]; exact hF) h5 h6⟩⟩
        · cases h
      · rename_i id ex
        obtain ⟨B, hB, h⟩ := look_sound h
        split at h
        · rename_i t' K xs
          split at h
          · rename_i hKe
            rw [hK] at hKe
            simp only [Kind.sl.injEq] at hKe
            subst hKe
            split at h
            · rename_i hlt
              exact ⟨_, _, h, opsem_value fun X ac at_ => by
                have h1 := at_.opr x mx; rw [ex] at h1
                have h2 := at_.opr ix mi; rw [ei, RS.int] at h2
                have hX := at_.sub _ _ hB
                rcases (R1_row hX).1 ((RS.one (by simp) (by simp) (by simp) (by simp)).1 h1) with ⟨_, h3, _⟩ | ⟨b, cap, cur, h3, h4, _⟩
                · omega
                · refine ⟨_, run ac X.w _ _ _ h4 h2 hlt, (RS.one (by simp) (by simp) (by simp) (by simp)).2 ?_⟩
                  rw [add_lit, Nat.zero_add]
                  exact (R1_ptrR hX).2 ⟨b, i.toNat, [], 0, j.K, rfl, by omega, h3, koff_nil _, rfl⟩⟩
            · cases h
          · cases h
        · cases h
      · rename_i id lo len ex
        obtain ⟨B, hB, h⟩ := look_sound h
        split at h
        · rename_i t' K xs
          split at h
          · rename_i hKe
            rw [hK] at hKe
            simp only [Kind.sl.injEq] at hKe
            subst hKe
            split at h
            · rename_i hlt
              exact ⟨_, _, h, opsem_value fun X ac at_ => by
                have h1 := at_.opr x mx; rw [ex] at h1
                have h2 := at_.opr ix mi; rw [ei, RS.int] at h2
                have hX := at_.sub _ _ hB
                obtain ⟨hle, ao, c, h3, _, h4⟩ := (R1_sub hX).1 ((RS.one (by simp) (by simp) (by simp) (by simp)).1 h1)
                obtain ⟨b, h5, rfl⟩ := h4 (by omega)
                refine ⟨_, run ac X.w _ _ _ h3 h2 hlt, (RS.one (by simp) (by simp) (by simp) (by simp)).2 ?_⟩
                rw [add_lit]
                exact (R1_ptrR hX).2 ⟨b, lo + i.toNat, [], 0, j.K, rfl, by omega, h5, koff_nil _, by rw [Nat.add_mul]; rfl⟩⟩
            · cases h
          · cases h
        · cases h
      · rename_i id path lo len ex
        obtain ⟨B, hB, h⟩ := look_sound h
        split at h
        · rename_i t' K av
          split at h
          · rename_i m e' hk
            split at h
            · rename_i hKe
              rw [hK] at hKe
              simp only [Kind.sl.injEq] at hKe
              subst hKe
              split at h
              · rename_i hlt
                exact ⟨_, _, h, opsem_value fun X ac at_ => by
                  have h1 := at_.opr x mx; rw [ex] at h1
                  have h2 := at_.opr ix mi; rw [ei, RS.int] at h2
                  have hX := at_.sub _ _ hB
                  obtain ⟨b, off, n', e', h3, h4, hle, ao, c, h5, _, h6⟩ := (R1_slc hX).1 ((RS.one (by simp) (by simp) (by simp) (by simp)).1 h1)
                  have h7 := kat_koff h4
                  rw [hk] at h7
                  simp only [Option.some.injEq, Kind.arr.injEq] at h7
                  obtain ⟨rfl, rfl⟩ := h7
                  obtain rfl := h6 (by omega)
                  refine ⟨_, run ac X.w _ _ _ h5 h2 hlt, (RS.one (by simp) (by simp) (by simp) (by simp)).2 ?_⟩
                  rw [add_lit]
                  exact (R1_ptr hX).2 ⟨b, off + (lo + i.toNat) * j.K.size, j.K, h3, koff_append h4 (koff_idx (by omega)), by rw [Nat.add_mul, Nat.add_assoc]⟩⟩
              · cases h
            · cases h
          · cases h
        · cases h
      · cases h
    · cases h
  · cases h
end
end Go.Ev
end

section
/-
  THE EVALUATOR's OPERATIONS ARE THE MODEL's, MORE: loads, fields, elements, slices, lengths, the least and the greatest.
-/
namespace Go.Ev
variable {A : Type}

/-- What a row of ours holds, by address. -/
theorem row_cells {X : Cx} {id : Nat} {e : TypeId} {K : Kind} {xs : List K.den} {b : Nat} (h : RB X id (.row e K xs)) (hb : X.ρ id = some b) :
    ∃ cur cap css, X.w.heap[b]? = some (.cells cur e (0, 0)) ∧ cur.size = cap * K.size ∧ xs.length ≤ cap ∧ cap ≤ maxLen ∧ All2 (RP X.F X.w K) xs css ∧ css.flatten = cur.toList.take (xs.length * K.size) ∧
      ∀ j u, css.flatten[j]? = some u → X.w.cell? ((⟨b, 0, none⟩ : Addr).add j) = some u := by
  rcases h with ⟨h, _⟩ | ⟨n, cur, cap, css, h1, h2, h3, h4, h5, h6, h7⟩
  · rw [hb] at h; cases h
  · rw [hb] at h1; cases h1
    refine ⟨cur, cap, css, h2, h3, h4, h5, h6, h7, fun j u hj => ?_⟩
    rw [add_lit, Nat.zero_add, cell_of_row _ _ _ _ _ _ h2]
    rw [h7, List.getElem?_take] at hj
    split at hj
    · simpa using hj
    · cases hj

theorem flatten_drop {css : List (List Value)} {m : Nat} (h : ∀ c ∈ css, c.length = m) (l : Nat) : (css.drop l).flatten = css.flatten.drop (l * m) := by
  induction css generalizing l with
  | nil => simp
  | cons c r ih =>
    have hc := h c (by simp)
    cases l with
    | zero => simp
    | succ l =>
      rw [List.drop_succ_cons, ih (fun c hc => h c (by simp [hc])), List.flatten_cons, Nat.succ_mul, Nat.add_comm, ← hc, List.drop_length_add_append]

theorem flatten_take {css : List (List Value)} {m : Nat} (h : ∀ c ∈ css, c.length = m) (l : Nat) : (css.take l).flatten = css.flatten.take (l * m) := by
  induction css generalizing l with
  | nil => simp
  | cons c r ih =>
    have hc := h c (by simp)
    cases l with
    | zero => simp
    | succ l =>
      rw [List.take_succ_cons, List.flatten_cons, ih (fun c hc => h c (by simp [hc])), List.flatten_cons, Nat.succ_mul, Nat.add_comm, ← hc, List.take_length_add_append]

theorem part_get {css : List (List Value)} {m : Nat} (h : ∀ c ∈ css, c.length = m) {l n j : Nat} {u : Value} (hj : ((css.drop l).take n).flatten[j]? = some u) : css.flatten[l * m + j]? = some u := by
  rw [flatten_take (fun c hc => h c (List.mem_of_mem_drop hc)), flatten_drop h, List.getElem?_take] at hj
  split at hj
  · simpa using hj
  · cases hj

section
variable {P : Program} {E : Env A} (T : TyOK P E) {o : Oper} {ev : Operand → AV} {sub : List (Nat × Blk)} {fresh : Nat} {k : Cont A} {out : A}

include T in
theorem load_op_sound {t : TypeId} {a : Operand} (ho : o.op = .load t a) (h : (loadK sub (ev a) fun y => E.ti t fun i => if y.fits i.K then k y [] else none) = some out) : ∃ v l, k v l = some out ∧ OpSem P o ev sub fresh v l := by
  have ma : a ∈ o.op.operands := by simp [Op.operands, ho]
  have run : ∀ {i : TI} (hi : E.ty.lookup t = some i) {y : AV} (hf : y.fits i.K = true) (X : Cx) (ac : Act) (ad : Addr) (cs : List Value), ac.eval a = .pointer (some ad) → RA X y cs → (∀ j u, cs[j]? = some u → X.w.cell? (ad.add j) = some u) →
      ∃ u, (execOp ac.eval o).run P X.w = .ok (.value u) X.w ∧ RS X y u := fun {i} hi {y} hf X ac ad cs h1 h2 h3 => by
    obtain ⟨v, h4, h5⟩ := load_sound T hi hf h2 h3
    exact ⟨v, by simp [execOp, ho, h1, Instr.loadAt, Instr.sureAddr, h4], RS.of0 h5 (fits_noTup hf)⟩
  unfold loadK at h
  split at h
  · rename_i K x ea
    obtain ⟨i, hi, h⟩ := ti_sound h
    split at h
    · rename_i hf
      exact ⟨_, _, h, opsem_value fun X ac at_ => by
        have h1 := at_.opr a ma; rw [ea] at h1
        obtain ⟨ad, cs, h2, _, h3, h4⟩ := (RS.one (by simp) (by simp) (by simp) (by simp)).1 h1
        exact run hi hf X ac ad cs h2 h3 h4⟩
    · cases h
  · rename_i id path ea
    obtain ⟨B, hB, h⟩ := look_sound h
    split at h
    · rename_i t' K av
      obtain ⟨y, h, hs⟩ := getV_sound h
      obtain ⟨i, hi, h⟩ := ti_sound h
      split at h
      · rename_i hf
        exact ⟨_, _, h, opsem_value fun X ac at_ => by
          have h1 := at_.opr a ma; rw [ea] at h1
          have hX := at_.sub _ _ hB
          obtain ⟨b, off, K', h2, h3, h4⟩ := (R1_ptr hX).1 ((RS.one (by simp) (by simp) (by simp) (by simp)).1 h1)
          obtain ⟨hfv, b', cs, h5, h6, h7⟩ := at_.ok.blk _ _ hX
          rw [h2] at h5; cases h5
          obtain ⟨off', K'', h8, _, h9⟩ := hs hfv h7
          rw [h3] at h8; cases h8
          refine run hi hf X ac _ _ h4 h9 fun j u hj => ?_
          rw [add_lit, cell_of_row _ _ _ _ _ _ h6]
          simpa using cut_get hj⟩
      · cases h
    · rename_i t' K xs
      split at h
      · rename_i i0 r _
        obtain ⟨y0, hy0, h⟩ := Option.bind_eq_some_iff.1 h
        obtain ⟨K', y, h, hs⟩ := getK_sound h
        obtain ⟨i, hi, h⟩ := ti_sound h
        split at h
        · rename_i hf
          exact ⟨_, _, h, opsem_value fun X ac at_ => by
            have h1 := at_.opr a ma; rw [ea] at h1
            have hX := at_.sub _ _ hB
            obtain ⟨b, i', r', off, K1, hp, hlt, h2, h3, h4⟩ := (R1_ptrR hX).1 ((RS.one (by simp) (by simp) (by simp) (by simp)).1 h1)
            simp only [List.cons.injEq, Hop.idx.injEq] at hp
            obtain ⟨rfl, rfl⟩ := hp
            obtain ⟨cur, cap, css, h5, h6, h7, _, h8, h9, h10⟩ := row_cells (at_.ok.blk _ _ hX) h2
            obtain ⟨cs, h11, h12⟩ := elem_cells h8 h10 hy0
            obtain ⟨off', h13, h14⟩ := hs h11
            rw [h3] at h13; cases h13
            refine run hi hf X ac _ _ h4 (show RA X (.p K' y) _ from h14) fun j u hj => ?_
            have := h12 _ _ (cut_get hj)
            rw [add_lit, add_lit] at this
            rw [add_lit, show i0 * K.size + off + j = 0 + i0 * K.size + (off + j) by omega]
            exact this⟩
        · cases h
      · cases h
    · cases h
  · cases h

include T in
theorem fieldAddr_sound {t : TypeId} {x : Operand} {f : Nat} (ho : o.op = .fieldAddr t x f) (h : fieldAddrK E sub t (ev x) f (fun v => k v []) = some out) : ∃ v l, k v l = some out ∧ OpSem P o ev sub fresh v l := by
  have mx : x ∈ o.op.operands := by simp [Op.operands, ho]
  obtain ⟨ti, hti, h⟩ := ti_sound h
  split at h
  · rename_i ts hd
    split at h
    · rename_i hf
      obtain ⟨fs, hu, hb⟩ := T.struct hti hd
      obtain ⟨fd, j, o', hg, hj, hpos, hoff, hko⟩ := fieldsB_get hb hf
      have hg' : fs[f]? = some fd := by simpa using hg
      have run : ∀ (ac : Act) (w : World) (ad : Addr), ac.eval x = .pointer (some ad) → (execOp ac.eval o).run P w = .ok (.value (.pointer (some (ad.add o')))) w := fun ac w ad h1 => by
        have hne : ¬ j.K.size = 0 := by omega
        have e : fd.offset = o' := by omega
        simp [execOp, ho, Instr.fieldAt, h1, run_underlying hu, hg', Instr.sureAddr, fieldPlace, T.runSize hj, hne, e]
      split at h
      · rename_i id path ex
        obtain ⟨K', h, hs⟩ := kindAt_sound h
        split at h
        · rename_i hKe
          exact ⟨_, _, h, opsem_value fun X ac at_ => by
            have h1 := at_.opr x mx; rw [ex] at h1
            obtain ⟨b, off, h3, h4⟩ := hs X _ at_.sub ((RS.one (by simp) (by simp) (by simp) (by simp)).1 h1)
            refine ⟨_, run ac X.w _ h3, (RS.one (by simp) (by simp) (by simp) (by simp)).2 ?_⟩
            rw [add_lit]
            exact h4 [.fld f] _ j.K (by rw [hKe]; exact hko)⟩
        · cases h
      · rename_i K y ex
        split at h
        · rename_i hKe
          subst hKe
          obtain ⟨K', y', h, hs⟩ := getK_sound h
          exact ⟨_, _, h, opsem_value fun X ac at_ => by
            have h1 := at_.opr x mx; rw [ex] at h1
            obtain ⟨ad, cs, h2, hF, h3, h4⟩ := (RS.one (by simp) (by simp) (by simp) (by simp)).1 h1
            obtain ⟨off, h5, h6⟩ := hs h3
            rw [hko] at h5; cases h5
            refine ⟨_, run ac X.w _ h2, RS.vp (by rw [add_block]; exact hF) h6 fun j u hj => ?_⟩
            rw [add_add]
            exact h4 _ _ (cut_get hj)⟩
        · cases h
      · cases h
    · cases h
  · cases h

include T in
theorem field_sound {t : TypeId} {x : Operand} {f : Nat} (ho : o.op = .field t x f) (h : fieldK E t (ev x) f (fun v => k v []) = some out) : ∃ v l, k v l = some out ∧ OpSem P o ev sub fresh v l := by
  have mx : x ∈ o.op.operands := by simp [Op.operands, ho]
  obtain ⟨ti, hti, h⟩ := ti_sound h
  split at h
  · rename_i ts hd
    split at h
    · rename_i hf
      split at h
      · cases h
      · rename_i hna
        split at h
        · rename_i hfit
          obtain ⟨fs, hu, hb⟩ := T.struct hti hd
          obtain ⟨fd, j, o', hg, hj, hpos, hoff, hko⟩ := fieldsB_get hb hf
          have hg' : fs[f]? = some fd := by simpa using hg
          have e : fd.offset = o' := by omega
          obtain ⟨y, h, hs⟩ := getV_sound h
          exact ⟨_, _, h, opsem_value fun X ac at_ => by
            have h1 := (at_.opr x mx).to0 (fits_noTup hfit)
            have hagg : ti.K.isAgg = true := by
              cases hK : ti.K with
              | pair a b => rfl
              | unit => rfl
              | arr n e => rfl
              | _ => rw [hK] at hko; simp [koff] at hko
            rcases h1 with h1 | ⟨cs, h2, ⟨_, h3⟩ | ⟨h3, _⟩⟩
            · rw [h1] at hna; exact absurd rfl hna
            · obtain ⟨off, K', h4, h5, h6⟩ := hs hfit h2
              rw [hko] at h4; cases h4
              obtain ⟨v, h7, h8⟩ := part_sound T hj h5 h6 X.w
              exact ⟨v, by simp [execOp, ho, Instr.field, run_underlying hu, hg', h3, asAgg, e, h7], RS.of0 h8 (fits_noTup h5)⟩
            · rw [fits_agg hfit (by simpa using hna), hagg] at h3; cases h3⟩
        · cases h
    · cases h
  · cases h

include T in
theorem index_sound {t : TypeId} {x ix : Operand} (ho : o.op = .index t x ix) (h : indexK E t (ev x) (ev ix) (fun v => k v []) = some out) : ∃ v l, k v l = some out ∧ OpSem P o ev sub fresh v l := by
  have mx : x ∈ o.op.operands := by simp [Op.operands, ho]
  have mi : ix ∈ o.op.operands := by simp [Op.operands, ho]
  obtain ⟨q, i, ei, h⟩ := asInt_sound h
  split at h
  · rename_i hi0
    obtain ⟨ti, hti, h⟩ := ti_sound h
    split at h
    · rename_i n e l ex
      split at h
      · rename_i hKe
        obtain ⟨y, hy, h⟩ := Option.bind_eq_some_iff.1 h
        obtain ⟨ds, hu, hd⟩ := T.desc hti
        have : ∃ e', P.underlying t = some (.array n e') ∧ ∃ j, E.ty.lookup e' = some j ∧ e = j.K := by
          obtain ⟨K, td, by', cm⟩ := ti
          simp only at hKe; subst hKe
          cases td with
          | array n' e' =>
            obtain ⟨h1, j, h2, h3, _⟩ := T.array hti rfl
            simp only [Kind.arr.injEq] at h3
            exact ⟨e', by rw [h3.1]; exact h1, j, h2, h3.2⟩
          | struct ts =>
            obtain ⟨fs, h1, h2⟩ := T.struct hti rfl
            cases hf : fs.toList <;> cases ts <;> simp [hf, fieldsB] at h2
          | _ => cases ds <;> simp at hd
        obtain ⟨e', hu', j, hj, rfl⟩ := this
        have h0 := (List.getElem?_eq_some_iff.1 hy).1
        exact ⟨_, _, h, opsem_value fun X ac at_ => by
          have h1 := at_.opr x mx; rw [ex] at h1
          have h2 := at_.opr ix mi; rw [ei, RS.int] at h2
          obtain ⟨cs, ⟨hl, css, rfl, hr⟩, ⟨_, h3⟩ | ⟨h3, _⟩⟩ := (h1.to0 (by simp)).data
          · have hlt : i < (n : Int) := (Int.toNat_lt hi0).1 (hl ▸ h0)
            obtain ⟨c, hc, hrc⟩ := hr.get hy
            have hlen := RP.length hrc
            have e1 := flatten_cut hr.lens hc (o := 0) (n := j.K.size) (by omega)
            rw [Nat.add_zero, cut_all c hlen.symm] at e1
            obtain ⟨v, h7, h8⟩ := part_sound T hj (X := X) (y := .p j.K y) (cs := css.flatten) (off := i.toNat * j.K.size) (by simp [AV.fits]) (by rw [e1]; exact hrc) X.w
            exact ⟨v, by simp [execOp, ho, Instr.index, h2, asIntOf, run_underlying hu', h3, hi0, hlt, T.runSize hj, h7], RS.of0 h8 (by simp)⟩
          · cases h3⟩
      · cases h
    · rename_i s ex
      split at h
      · rename_i hKe
        obtain ⟨y, hy, h⟩ := Option.bind_eq_some_iff.1 h
        have hu := T.str hti hKe.symm
        exact ⟨_, _, h, opsem_value fun X ac at_ => by
          have h1 := at_.opr x mx; rw [ex, RS.str] at h1
          have h2 := at_.opr ix mi; rw [ei, RS.int] at h2
          simp only [strBytes, List.getElem?_map, Option.map_eq_some_iff] at hy
          obtain ⟨b, hb, rfl⟩ := hy
          have hb' : s[i.toNat]? = some b := by
            obtain ⟨d⟩ := s
            obtain ⟨h4, h5⟩ := List.getElem?_eq_some_iff.1 hb
            have hlt : i.toNat < (⟨d⟩ : ByteArray).size := by simpa [ByteArray.size] using h4
            rw [getElem?_pos (⟨d⟩ : ByteArray) i.toNat hlt]
            exact congrArg some (by rw [← h5]; rfl)
          exact ⟨_, by simp [execOp, ho, Instr.index, h1, h2, asIntOf, run_underlying hu, hi0, hb'] <;> rfl, RS.int.2 rfl⟩⟩
      · cases h
    · cases h
  · cases h

include T in
theorem len_sound {t : TypeId} {ts : List TypeId} {x : Operand} {c : Call} (ho : o.op = .call c) (hc : c.callee = .builtin .len) (ha : c.args.toList = [x]) (ht : c.argTypes.toList = t :: ts)
    (h : lenK E sub t (ev x) (fun v => k v []) = some out) : ∃ v l, k v l = some out ∧ OpSem P o ev sub fresh v l := by
  have ha' : c.args = #[x] := Array.toList_inj.1 ha
  have ht' : c.argTypes = (t :: ts).toArray := Array.toList_inj.1 (by simpa using ht)
  have mx : x ∈ o.op.operands := by simp [Op.operands, ho, Call.operands, hc, ha']
  have pre : ∀ (ac : Act) (w : World) (n : Nat), (Builtin.len_ c.argTypes o.type #[ac.eval x]).run P w = .ok (goInt n) w → (execOp ac.eval o).run P w = .ok (.value (.int .i64 n)) w := fun ac w n hr => by
    simp [execOp, ho, resolve, hc, ha', invoke, builtin]
    rw [hr]; rfl
  obtain ⟨ti, hti, h⟩ := ti_sound h
  split at h
  · rename_i e hd
    obtain ⟨hu, _⟩ := T.slice hti hd
    have run : ∀ (ac : Act) (w : World) (ao : Option Addr) (n cap : Nat), ac.eval x = .slice ao n cap → (execOp ac.eval o).run P w = .ok (.value (.int .i64 n)) w := fun ac w ao n cap h1 =>
      pre ac w n (by simp [Builtin.len_, ht', h1, run_underlying hu])
    split at h
    · rename_i K xs ex
      exact ⟨_, _, h, opsem_value fun X ac at_ => by
        have h1 := at_.opr x mx; rw [ex] at h1
        obtain ⟨ao, cap, h3, _⟩ := sl_elem h1
        exact ⟨_, run ac X.w _ _ _ h3, RS.int.2 rfl⟩⟩
    · rename_i id ex
      obtain ⟨B, hB, h⟩ := look_sound h
      split at h
      · rename_i t' K xs
        exact ⟨_, _, h, opsem_value fun X ac at_ => by
          have h1 := at_.opr x mx; rw [ex] at h1
          have hX := at_.sub _ _ hB
          rcases (R1_row hX).1 ((RS.one (by simp) (by simp) (by simp) (by simp)).1 h1) with ⟨_, h3, h4⟩ | ⟨b, cap, cur, h3, h4, _⟩
          · exact ⟨_, run ac X.w _ _ _ h4, RS.int.2 (by rw [h3])⟩
          · exact ⟨_, run ac X.w _ _ _ h4, RS.int.2 rfl⟩⟩
      · cases h
    · rename_i id lo n ex
      obtain ⟨B, hB, h⟩ := look_sound h
      split at h
      · rename_i t' K xs
        exact ⟨_, _, h, opsem_value fun X ac at_ => by
          have h1 := at_.opr x mx; rw [ex] at h1
          have hX := at_.sub _ _ hB
          obtain ⟨_, ao, c', h3, _⟩ := (R1_sub hX).1 ((RS.one (by simp) (by simp) (by simp) (by simp)).1 h1)
          exact ⟨_, run ac X.w _ _ _ h3, RS.int.2 rfl⟩⟩
      · cases h
    · rename_i id path lo n ex
      obtain ⟨B, hB, h⟩ := look_sound h
      split at h
      · rename_i t' K av
        exact ⟨_, _, h, opsem_value fun X ac at_ => by
          have h1 := at_.opr x mx; rw [ex] at h1
          have hX := at_.sub _ _ hB
          obtain ⟨_, _, _, _, _, _, _, ao, c', h3, _⟩ := (R1_slc hX).1 ((RS.one (by simp) (by simp) (by simp) (by simp)).1 h1)
          exact ⟨_, run ac X.w _ _ _ h3, RS.int.2 rfl⟩⟩
      · cases h
    · cases h
  · rename_i n e hd
    obtain ⟨hu, _⟩ := T.array hti hd
    exact ⟨_, _, h, opsem_value fun X ac at_ => ⟨_, pre ac X.w n (by simp [Builtin.len_, ht', run_underlying hu]), RS.int.2 rfl⟩⟩
  · split at h
    · rename_i s ex
      split at h
      · rename_i hKe
        have hu := T.str hti hKe.symm
        exact ⟨_, _, h, opsem_value fun X ac at_ => by
          have h1 := at_.opr x mx; rw [ex, RS.str] at h1
          exact ⟨_, pre ac X.w s.size (by simp [Builtin.len_, ht', h1, run_underlying hu]), RS.int.2 rfl⟩⟩
      · cases h
    · cases h
  · rename_i a b hd
    have hu := T.map hti hd
    split at h
    · rename_i id ex
      obtain ⟨B, hB, h⟩ := look_sound h
      split at h
      · rename_i KK KV es
        exact ⟨_, _, h, opsem_value fun X ac at_ => by
          have h1 := at_.opr x mx; rw [ex] at h1
          have hX := at_.sub _ _ hB
          obtain ⟨b', h3, h4⟩ := (R1_mp hX).1 ((RS.one (by simp) (by simp) (by simp) (by simp)).1 h1)
          obtain ⟨b'', mes, clock, h5, h6, h7, _⟩ := at_.ok.blk _ _ hX
          rw [h3] at h5; cases h5
          have hl := h7.length
          exact ⟨_, pre ac X.w mes.size (by simp [Builtin.len_, ht', h4, run_underlying hu, getObj, Sem.run, h6]), RS.int.2 (by simp at hl; rw [hl])⟩⟩
      · cases h
    · cases h
  · cases h

end
end Go.Ev
end

section
/-
  THE EVALUATOR's OPERATIONS ARE THE MODEL's, MORE: parts of slices, the least and the greatest, stores, append.
-/
namespace Go.Ev
variable {A : Type}

theorem lowK_sound {out : A} {lo : Option AV} {hn : Nat} {k : Nat → Option A} (h : lowK lo hn k = some out) :
    ∃ l, k l = some out ∧ l ≤ hn ∧ ∀ (P : Program) (X : Cx) (w : World), (lo = none ∨ ∃ a, lo = some a ∧ ∀ v, RS X a v → (Instr.sliceBound v hn .sliceB).run P w = .ok l w) ∧ (lo = none → l = 0) := by
  unfold lowK at h
  split at h
  · exact ⟨0, h, Nat.zero_le _, fun _ _ _ => ⟨.inl rfl, fun _ => rfl⟩⟩
  · rename_i a
    obtain ⟨q, i, rfl, g⟩ := asInt_sound h
    split at g
    · rename_i h0
      split at g
      · rename_i h1
        refine ⟨i.toNat, g, by omega, fun P X w => ⟨.inr ⟨_, rfl, fun v hv => ?_⟩, fun h => by cases h⟩⟩
        rw [RS.int] at hv
        subst hv
        exact run_sliceBound w q i hn .sliceB h0 h1
      · cases g
    · cases g

theorem boundsK_sound {out : A} {len : Nat} {lo hi : Option AV} {k : Nat → Nat → Option A} (h : boundsK len lo hi k = some out) :
    ∃ l h', k l h' = some out ∧ l ≤ h' ∧ h' ≤ len ∧ ∀ (P : Program) (X : Cx) (vl vh : Option Value) (isS : Bool) (cap : Nat) (w : World), (lo.isSome = vl.isSome) → (hi.isSome = vh.isSome) →
      (∀ a v, lo = some a → vl = some v → RS X a v) → (∀ a v, hi = some a → vh = some v → RS X a v) → len ≤ cap → (Instr.sliceBounds isS len cap vl vh none).run P w = .ok (l, h', cap) w := by
  unfold boundsK at h
  split at h
  · obtain ⟨l, h1, h2, h3⟩ := lowK_sound h
    refine ⟨l, len, h1, h2, Nat.le_refl _, fun P X vl vh isS cap w hs1 hs2 hr1 hr2 hc => ?_⟩
    cases vh with
    | some v => simp at hs2
    | none =>
      obtain ⟨h4, h5⟩ := h3 P X w
      cases vl with
      | none =>
        cases lo with
        | some _ => simp at hs1
        | none => simp [Instr.sliceBounds, h5 rfl]
      | some v =>
        rcases h4 with rfl | ⟨a, rfl, h4⟩
        · simp at hs1
        · simp [Instr.sliceBounds, h4 v (hr1 _ _ rfl rfl)]
  · rename_i a
    obtain ⟨q, i, rfl, g⟩ := asInt_sound h
    split at g
    · rename_i h0
      split at g
      · rename_i h1
        obtain ⟨l, h2, h3, h4⟩ := lowK_sound g
        refine ⟨l, i.toNat, h2, h3, by omega, fun P X vl vh isS cap w hs1 hs2 hr1 hr2 hc => ?_⟩
        cases vh with
        | none => simp at hs2
        | some v =>
          have e := hr2 _ _ rfl rfl
          rw [RS.int] at e
          subst e
          have hb : ∀ code, (Instr.sliceBound (.int q i) cap code).run P w = .ok i.toNat w := fun code => run_sliceBound w q i cap code h0 (by omega)
          obtain ⟨h5, h6⟩ := h4 P X w
          cases vl with
          | none =>
            cases lo with
            | some _ => simp at hs1
            | none => simp [Instr.sliceBounds, hb, h6 rfl]
          | some v =>
            rcases h5 with rfl | ⟨a, rfl, h5⟩
            · simp at hs1
            · simp [Instr.sliceBounds, hb, h5 v (hr1 _ _ rfl rfl)]
      · cases g
    · cases g

section
variable {P : Program} {E : Env A} (T : TyOK P E) {o : Oper} {ev : Operand → AV} {sub : List (Nat × Blk)} {fresh : Nat} {k : Cont A} {out : A}

include T in
theorem slice_sound {t : TypeId} {x : Operand} {lo hi : Option Operand} (ho : o.op = .slice t x lo hi none) (h : sliceK E sub t (ev x) (lo.map ev) (hi.map ev) (fun v => k v []) = some out) : ∃ v l, k v l = some out ∧ OpSem P o ev sub fresh v l := by
  have mx : x ∈ o.op.operands := by simp [Op.operands, ho]
  have ml : ∀ y, lo = some y → y ∈ o.op.operands := fun y e => by simp [Op.operands, ho, e]
  have mh : ∀ y, hi = some y → y ∈ o.op.operands := fun y e => by simp [Op.operands, ho, e]
  have hlo : ∀ (X : Cx) (ac : Act), At X ac o ev sub → ∀ a v, lo.map ev = some a → lo.map ac.eval = some v → RS X a v := fun X ac at_ a v h1 h2 => by
    cases hl : lo with
    | none => rw [hl] at h1; cases h1
    | some y => rw [hl] at h1 h2; simp at h1 h2; subst h1; subst h2; exact at_.opr y (ml y hl)
  have hhi : ∀ (X : Cx) (ac : Act), At X ac o ev sub → ∀ a v, hi.map ev = some a → hi.map ac.eval = some v → RS X a v := fun X ac at_ a v h1 h2 => by
    cases hl : hi with
    | none => rw [hl] at h1; cases h1
    | some y => rw [hl] at h1 h2; simp at h1 h2; subst h1; subst h2; exact at_.opr y (mh y hl)
  obtain ⟨ti, hti, h⟩ := ti_sound h
  split at h
  · rename_i e hd
    obtain ⟨hu, j, hj, hK, hpos, _⟩ := T.slice hti hd
    -- a slice's part
    have run : ∀ {len : Nat} {kk : Nat → Nat → Option A}, boundsK len (lo.map ev) (hi.map ev) kk = some out → ∃ l h', kk l h' = some out ∧ l ≤ h' ∧ h' ≤ len ∧ ∀ (X : Cx) (ac : Act), At X ac o ev sub → ∀ ao cap, ac.eval x = .slice ao len cap → len ≤ cap →
        (execOp ac.eval o).run P X.w = .ok (.value (.slice (if cap = l then ao else ao.map (·.add (l * j.K.size))) (h' - l) (cap - l))) X.w := fun {len kk} hb => by
      obtain ⟨l, h', h1, h2, h3, h4⟩ := boundsK_sound hb
      refine ⟨l, h', h1, h2, h3, fun X ac at_ ao cap h5 h6 => ?_⟩
      have h7 := h4 P X (lo.map ac.eval) (hi.map ac.eval) true cap X.w (by simp) (by simp) (hlo X ac at_) (hhi X ac at_) h6
      simp [execOp, ho, Instr.sliceAt, run_underlying hu, Instr.slice, h5, h7, T.runSize hj]
    split at h
    · rename_i K xs ex
      split at h
      · rename_i hKe
        rw [hK] at hKe
        simp only [Kind.sl.injEq] at hKe
        subst hKe
        obtain ⟨l, h', h, hlh, hhl, hr⟩ := run h
        exact ⟨_, _, h, opsem_value fun X ac at_ => by
          have h1 := at_.opr x mx; rw [ex] at h1
          obtain ⟨ao, cap, h3, hcap, h4⟩ := sl_elem h1
          refine ⟨_, hr X ac at_ ao cap h3 hcap, ?_⟩
          have hlen : ((xs.drop l).take (h' - l)).length = h' - l := by simp; omega
          refine .of0 (.inr ⟨[_], ⟨_, cap - l, by rw [hlen], by omega, fun hp => ?_⟩, .inr ⟨rfl, rfl⟩⟩) (by simp)
          rw [hlen] at hp
          obtain ⟨ad, css, rfl, hF, h5, h6⟩ := h4 (by omega)
          rw [if_neg (by omega)]
          refine ⟨ad.add (l * j.K.size), (css.drop l).take (h' - l), rfl, by rw [add_block]; exact hF, (h5.drop l).take _, fun m u hm => ?_⟩
          rw [add_add]
          exact h6 _ _ (part_get h5.lens hm)⟩
      · cases h
    · rename_i id ex
      obtain ⟨B, hB, h⟩ := look_sound h
      split at h
      · rename_i t' K xs
        split at h
        · rename_i hKe
          rw [hK] at hKe
          simp only [Kind.sl.injEq] at hKe
          subst hKe
          obtain ⟨l, h', h, hlh, hhl, hr⟩ := run h
          exact ⟨_, _, h, opsem_value fun X ac at_ => by
            have h1 := at_.opr x mx; rw [ex] at h1
            have hX := at_.sub _ _ hB
            rcases (R1_row hX).1 ((RS.one (by simp) (by simp) (by simp) (by simp)).1 h1) with ⟨_, h3, h4⟩ | ⟨b, cap, cur, h3, h4, _, _, h5⟩
            · refine ⟨_, hr X ac at_ none 0 (by rw [h4, h3]) (Nat.le_of_eq h3), (RS.one (by simp) (by simp) (by simp) (by simp)).2 ((R1_sub hX).2 ⟨by omega, _, _, rfl, by omega, fun hp => by omega⟩)⟩
            · refine ⟨_, hr X ac at_ _ _ h4 h5, (RS.one (by simp) (by simp) (by simp) (by simp)).2 ((R1_sub hX).2 ⟨by omega, _, _, rfl, by omega, fun hp => ⟨b, h3, ?_⟩⟩)⟩
              rw [if_neg (by omega), Option.map_some, add_lit, Nat.zero_add]⟩
        · cases h
      · cases h
    · rename_i id a n ex
      obtain ⟨B, hB, h⟩ := look_sound h
      split at h
      · rename_i t' K xs
        split at h
        · rename_i hKe
          rw [hK] at hKe
          simp only [Kind.sl.injEq] at hKe
          subst hKe
          obtain ⟨l, h', h, hlh, hhl, hr⟩ := run h
          exact ⟨_, _, h, opsem_value fun X ac at_ => by
            have h1 := at_.opr x mx; rw [ex] at h1
            have hX := at_.sub _ _ hB
            obtain ⟨hle, ao, c, h3, h4, h5⟩ := (R1_sub hX).1 ((RS.one (by simp) (by simp) (by simp) (by simp)).1 h1)
            refine ⟨_, hr X ac at_ _ _ h3 h4, (RS.one (by simp) (by simp) (by simp) (by simp)).2 ((R1_sub hX).2 ⟨by omega, _, _, rfl, by omega, fun hp => ?_⟩)⟩
            obtain ⟨b, h6, rfl⟩ := h5 (by omega)
            refine ⟨b, h6, ?_⟩
            rw [if_neg (by omega), Option.map_some, add_lit, Nat.add_mul]⟩
        · cases h
      · cases h
    · rename_i id path a n ex
      obtain ⟨B, hB, h⟩ := look_sound h
      split at h
      · rename_i t' K av
        split at h
        · rename_i m e' hk
          split at h
          · rename_i hKe
            rw [hK] at hKe
            simp only [Kind.sl.injEq] at hKe
            subst hKe
            obtain ⟨l, h', h, hlh, hhl, hr⟩ := run h
            exact ⟨_, _, h, opsem_value fun X ac at_ => by
              have h1 := at_.opr x mx; rw [ex] at h1
              have hX := at_.sub _ _ hB
              obtain ⟨b, off, n', e', h3, h4, hle, ao, c, h5, h6, h7⟩ := (R1_slc hX).1 ((RS.one (by simp) (by simp) (by simp) (by simp)).1 h1)
              have h8 := kat_koff h4
              rw [hk] at h8
              simp only [Option.some.injEq, Kind.arr.injEq] at h8
              obtain ⟨rfl, rfl⟩ := h8
              refine ⟨_, hr X ac at_ _ _ h5 h6, (RS.one (by simp) (by simp) (by simp) (by simp)).2 ((R1_slc hX).2 ⟨b, off, _, _, h3, h4, by omega, _, _, rfl, by omega, fun hp => ?_⟩)⟩
              obtain rfl := h7 (by omega)
              rw [if_neg (by omega), Option.map_some, add_lit, Nat.add_mul, Nat.add_assoc]⟩
          · cases h
        · cases h
      · cases h
    · cases h
  · rename_i n e hd
    obtain ⟨hu, j, hj, hK, hpos⟩ := T.array hti hd
    split at h
    · rename_i id path ex
      obtain ⟨B, hB, h⟩ := look_sound h
      split at h
      · rename_i t' K av
        split at h
        · rename_i K' hk
          split at h
          · rename_i hKe
            subst hKe
            obtain ⟨l, h', h, hlh, hhl, h4⟩ := boundsK_sound h
            exact ⟨_, _, h, opsem_value fun X ac at_ => by
              have h1 := at_.opr x mx; rw [ex] at h1
              have hX := at_.sub _ _ hB
              obtain ⟨b, off, K1, h5, h6, h7⟩ := (R1_ptr hX).1 ((RS.one (by simp) (by simp) (by simp) (by simp)).1 h1)
              have h8 := kat_koff h6
              rw [hk, hK] at h8
              simp only [Option.some.injEq] at h8
              subst h8
              have h9 := h4 P X (lo.map ac.eval) (hi.map ac.eval) false n X.w (by simp) (by simp) (hlo X ac at_) (hhi X ac at_) (Nat.le_refl _)
              refine ⟨.slice (some (if n = l then ⟨b, off, none⟩ else (⟨b, off, none⟩ : Addr).add (l * j.K.size))) (h' - l) (n - l), ?_, (RS.one (by simp) (by simp) (by simp) (by simp)).2 ((R1_slc hX).2 ⟨b, off, _, _, h5, h6, by omega, _, _, rfl, by omega, fun hp => ?_⟩)⟩
              · simp [execOp, ho, Instr.sliceAt, run_underlying hu, h7, Instr.sureAddr, h9, T.runSize hj]
              · rw [if_neg (by omega), add_lit]⟩
          · cases h
        · cases h
      · cases h
    · cases h
  · split at h
    · rename_i s ex
      split at h
      · rename_i hKe
        have hu := T.str hti hKe.symm
        obtain ⟨l, h', h, hlh, hhl, h4⟩ := boundsK_sound h
        exact ⟨_, _, h, opsem_value fun X ac at_ => by
          have h1 := at_.opr x mx; rw [ex, RS.str] at h1
          have h9 := h4 P X (lo.map ac.eval) (hi.map ac.eval) false s.size X.w (by simp) (by simp) (hlo X ac at_) (hhi X ac at_) (Nat.le_refl _)
          exact ⟨_, by simp [execOp, ho, Instr.sliceAt, run_underlying hu, Instr.slice, h1, h9] <;> rfl, RS.str.2 rfl⟩⟩
      · cases h
    · cases h
  · cases h

-- ------------------------------------------------------------ the least, the greatest

theorem fold_sound {f : Int → Int → Int} {g : Value → Value → Sem Value} (hg : ∀ q a b (w : World), (g (.int q a) (.int q b)).run P w = .ok (.int q (f a b)) w) :
    ∀ (rest : List Operand) (v : AV) (kk : AV → Option A), foldInt f (rest.map ev) v kk = some out → ∃ v', kk v' = some out ∧ ∀ (X : Cx) (ac : Act) (u : Value), (∀ x ∈ rest, RS X (ev x) (ac.eval x)) → RS X v u →
      ∃ u', ((rest.map ac.eval).foldlM g u).run P X.w = .ok u' X.w ∧ RS X v' u'
  | [], v, kk, h => ⟨v, h, fun X ac u _ hu => ⟨u, rfl, hu⟩⟩
  | x :: r, v, kk, h => by
    simp only [List.map_cons, foldInt] at h
    split at h
    · rename_i _ q a q' b ex
      split at h
      · rename_i hq; subst hq
        obtain ⟨v', h1, h2⟩ := fold_sound hg r _ kk h
        refine ⟨v', h1, fun X ac u hr hu => ?_⟩
        have e1 := hr x (by simp)
        rw [ex, RS.int] at e1
        rw [RS.int] at hu
        obtain ⟨u', h3, h4⟩ := h2 X ac (.int q (f a b)) (fun y hy => hr y (by simp [hy])) (RS.int.2 rfl)
        exact ⟨u', by simp [hu, e1, hg, h3], h4⟩
      · cases h
    · cases h

theorem minmax_sound {b : Builtin} {f : Int → Int → Int} {x : Operand} {rest : List Operand} {c : Call} (ho : o.op = .call c) (hc : c.callee = .builtin b) (ha : c.args.toList = x :: rest)
    (hb : (b = .min ∧ f = imin) ∨ (b = .max ∧ f = imax)) (h : foldInt f (rest.map ev) (ev x) (fun v => k v []) = some out) : ∃ v l, k v l = some out ∧ OpSem P o ev sub fresh v l := by
  have ha' : c.args = (x :: rest).toArray := Array.toList_inj.1 (by simpa using ha)
  have mx : ∀ y ∈ x :: rest, y ∈ o.op.operands := fun y hy => by simp [Op.operands, ho, Call.operands, hc, ha']; simpa using hy
  rcases hb with ⟨rfl, rfl⟩ | ⟨rfl, rfl⟩
  · obtain ⟨v', h1, h2⟩ := fold_sound (P := P) (g := Builtin.min2) (fun q a b w => by simp [Builtin.min2, imin]) rest _ _ h
    refine ⟨_, _, h1, opsem_value fun X ac at_ => ?_⟩
    obtain ⟨u, h3, h4⟩ := h2 X ac (ac.eval x) (fun y hy => at_.opr y (mx y (by simp [hy]))) (at_.opr x (mx x (by simp)))
    exact ⟨u, by simp [execOp, ho, resolve, hc, ha', invoke, builtin, Builtin.min_, h3], h4⟩
  · obtain ⟨v', h1, h2⟩ := fold_sound (P := P) (g := Builtin.max2) (fun q a b w => by simp [Builtin.max2, imax]) rest _ _ h
    refine ⟨_, _, h1, opsem_value fun X ac at_ => ?_⟩
    obtain ⟨u, h3, h4⟩ := h2 X ac (ac.eval x) (fun y hy => at_.opr y (mx y (by simp [hy]))) (at_.opr x (mx x (by simp)))
    exact ⟨u, by simp [execOp, ho, resolve, hc, ha', invoke, builtin, Builtin.max_, h3], h4⟩

end
end Go.Ev
end

