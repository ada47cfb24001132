/-
  THE STEPS OF CONTEXTS: a new block, a row of our own that is nil, a block written, a row handed on to a new number.
-/
import Derived.Test.YtonpbpkkepacpaaFvD
set_option linter.all false
namespace Go.Ev

theorem hpSet_get (hp : List Blk) (id : Nat) (b : Blk) (j : Nat) : (hpSet hp id b)[j]? = if j = id then some b else if j < hp.length then hp[j]? else if j < id then some .free else none := by
  unfold hpSet
  split
  · rename_i h
    rw [List.getElem?_set]
    by_cases hj : j = id
    · subst hj; simp [h]
    · rw [if_neg (Ne.symm hj), if_neg hj]
      split
      · rfl
      · rw [if_neg (by omega)]; simp; omega
  · rename_i h
    rw [List.getElem?_append]
    by_cases hj : j < hp.length
    · rw [if_pos hj, if_neg (by omega), if_pos hj]
    · rw [if_neg hj, if_neg hj, List.getElem?_append]
      simp only [List.length_replicate]
      by_cases hji : j = id
      · subst hji; simp
      · rw [if_neg hji]
        by_cases h2 : j < id
        · rw [if_pos (by omega), if_pos h2, List.getElem?_replicate, if_pos (by omega)]
        · rw [if_neg (by omega), if_neg h2]; exact List.getElem?_eq_none (by simp; omega)

theorem hpSet_same (hp : List Blk) (id : Nat) (b : Blk) : (hpSet hp id b)[id]? = some b := by simp [hpSet_get]
theorem hpSet_old (hp : List Blk) (id : Nat) (b : Blk) {j : Nat} (h : j ≠ id) {c : Blk} (hc : hp[j]? = some c) : (hpSet hp id b)[j]? = some c := by
  rw [hpSet_get, if_neg h, if_pos (List.getElem?_eq_some_iff.1 hc).1]; exact hc
/-- What is there behind it: it, or what was there, or what is free. -/
theorem hpSet_cases {hp : List Blk} {id : Nat} {b : Blk} {j : Nat} {c : Blk} (h : (hpSet hp id b)[j]? = some c) : (j = id ∧ c = b) ∨ (j ≠ id ∧ hp[j]? = some c) ∨ (j ≠ id ∧ c = .free) := by
  rw [hpSet_get] at h
  split at h
  · rename_i hj; simp at h; exact .inl ⟨hj, h.symm⟩
  · rename_i hj
    split at h
    · exact .inr (.inl ⟨hj, h⟩)
    · split at h
      · simp at h; exact .inr (.inr ⟨hj, h.symm⟩)
      · cases h

def upd (ρ : Place) (id : Nat) (q : Option Nat) : Place := fun j => if j = id then q else ρ j
theorem upd_same (ρ : Place) (id : Nat) (q : Option Nat) : upd ρ id q id = q := by simp [upd]
theorem upd_ne (ρ : Place) (id : Nat) (q : Option Nat) {j : Nat} (h : j ≠ id) : upd ρ id q j = ρ j := by simp [upd, h]

/-- A number that is not taken. -/
def Cx.unused (X : Cx) (id : Nat) : Prop := X.hp[id]? = none ∨ X.hp[id]? = some .free

theorem Cx.unused.ne {X : Cx} {id : Nat} (h : X.unused id) {j : Nat} {b : Blk} (hb : X.hp[j]? = some b) (hn : b ≠ .free) : j ≠ id := by
  rintro rfl
  rcases h with h | h
  · rw [h] at hb; cases hb
  · rw [h] at hb; cases hb; exact hn rfl

theorem live_not_free {b : Blk} (h : b.live = true) : b ≠ .free := by rintro rfl; cases h

/-- A NEW NUMBER FOR WHAT LIES IN A NEW BLOCK, OR FOR A NIL ROW. -/
theorem new_ok {X : Cx} (ok : Ok X) {id : Nat} (hf : X.unused id) {B : Blk} {q : Option Nat} {w' : World} {Y : Cx}
    (hY : Y = ⟨upd X.ρ id q, hpSet X.hp id B, X.F, w'⟩)
    (hos : w'.os = X.w.os) (ht : w'.tape = X.w.tape) (hout : w'.output = X.w.output) (hsz : X.w.heap.size ≤ w'.heap.size) (hh : ∀ k, k < X.w.heap.size → w'.heap[k]? = X.w.heap[k]?)
    (hq : ∀ n, q = some n → X.w.heap.size ≤ n)
    (hrb : WEvo X Y → HEvo X Y → RB Y id B) : Ok Y ∧ WEvo X Y ∧ HEvo X Y := by
  subst hY
  have hown : ∀ b, b < X.w.heap.size → Cx.Own ⟨upd X.ρ id q, hpSet X.hp id B, X.F, w'⟩ b → X.Own b := by
    rintro b hb ⟨j, c, h1, h2, h3⟩
    simp only at h1 h3
    rcases hpSet_cases h1 with ⟨rfl, _⟩ | ⟨hj, h4⟩ | ⟨_, rfl⟩
    · rw [upd_same] at h3; have := hq b h3; omega
    · rw [upd_ne _ _ _ hj] at h3; exact ⟨j, c, h4, h2, h3⟩
    · cases h2
  have W : WEvo X ⟨upd X.ρ id q, hpSet X.hp id B, X.F, w'⟩ :=
    ⟨hos, ht, hout, hsz, fun b c e f h => ⟨c, by show w'.heap[b]? = _; rw [hh b (Array.getElem?_eq_some_iff.1 h).1]; exact h, rfl⟩, fun b hb _ => hh b hb, hown, fun _ h => h, fun _ h => .inl h⟩
  have H : HEvo X ⟨upd X.ρ id q, hpSet X.hp id B, X.F, w'⟩ :=
    ⟨fun j b hb hn => ⟨b, hpSet_old _ _ _ (hf.ne hb hn) hb, .refl hn⟩, fun j b hb hn => upd_ne _ _ _ (hf.ne hb hn)⟩
  refine ⟨⟨fun j b hb => ?_, fun i j b c c' h1 h2 h3 h4 h5 h6 => ?_, fun b hb => ?_⟩, W, H⟩
  · rcases hpSet_cases hb with ⟨rfl, rfl⟩ | ⟨hj, h4⟩ | ⟨_, rfl⟩
    · exact hrb W H
    · exact (ok.blk j b h4).evo W H ok.fo (upd_ne _ _ _ hj) fun hl n hn => hh n (ok.lt ⟨j, b, h4, hl, hn⟩)
    · trivial
  · simp only at h1 h3 h5 h6
    rcases hpSet_cases h1 with ⟨rfl, rfl⟩ | ⟨hj, g1⟩ | ⟨_, rfl⟩
    · rcases hpSet_cases h3 with ⟨rfl, rfl⟩ | ⟨hj', g3⟩ | ⟨_, rfl⟩
      · rfl
      · rw [upd_same] at h5; rw [upd_ne _ _ _ hj'] at h6
        have := hq b h5; have := ok.lt ⟨j, c', g3, h4, h6⟩; omega
      · cases h4
    · rcases hpSet_cases h3 with ⟨rfl, rfl⟩ | ⟨hj', g3⟩ | ⟨_, rfl⟩
      · rw [upd_same] at h6; rw [upd_ne _ _ _ hj] at h5
        have := hq b h6; have := ok.lt ⟨i, c, g1, h2, h5⟩; omega
      · rw [upd_ne _ _ _ hj] at h5; rw [upd_ne _ _ _ hj'] at h6
        exact ok.inj i j b c c' g1 h2 g3 h4 h5 h6
      · cases h4
    · cases h2
  · have := ok.fo b hb
    exact ⟨Nat.lt_of_lt_of_le this.1 hsz, fun ho => this.2 (hown b this.1 ho)⟩

/-- A BLOCK OF OURS WRITTEN. -/
theorem write_ok {X : Cx} (ok : Ok X) {id n : Nat} {B B' : Blk} (hB : X.hp[id]? = some B) (hl : B.live = true) (hρ : X.ρ id = some n) (he : BlkEvo B B') (hl' : B'.live = true) {w' : World} {Y : Cx}
    (hY : Y = ⟨X.ρ, hpSet X.hp id B', X.F, w'⟩)
    (hos : w'.os = X.w.os) (ht : w'.tape = X.w.tape) (hout : w'.output = X.w.output) (hsz : X.w.heap.size ≤ w'.heap.size) (hh : ∀ k, k < X.w.heap.size → k ≠ n → w'.heap[k]? = X.w.heap[k]?)
    (hs : ∀ (c : Array Value) (e : TypeId) (f : Nat × Nat), X.w.heap[n]? = some (Obj.cells c e f) → ∃ c' : Array Value, w'.heap[n]? = some (Obj.cells c' e f) ∧ c'.size = c.size)
    (hrb : WEvo X Y → HEvo X Y → RB Y id B') : Ok Y ∧ WEvo X Y ∧ HEvo X Y := by
  subst hY
  have hn := live_not_free hl
  have hO : X.Own n := ⟨id, B, hB, hl, hρ⟩
  have hown : ∀ b, Cx.Own ⟨X.ρ, hpSet X.hp id B', X.F, w'⟩ b → X.Own b := by
    rintro b ⟨j, c, h1, h2, h3⟩
    simp only at h1 h3
    rcases hpSet_cases h1 with ⟨rfl, _⟩ | ⟨hj, h4⟩ | ⟨_, rfl⟩
    · exact ⟨j, B, hB, hl, h3⟩
    · exact ⟨j, c, h4, h2, h3⟩
    · cases h2
  have W : WEvo X ⟨X.ρ, hpSet X.hp id B', X.F, w'⟩ := by
    refine ⟨hos, ht, hout, hsz, fun b c e f h => ?_, fun b hb ho => hh b hb (fun e => ho (e ▸ hO)), fun b _ ho => hown b ho, fun _ h => h, fun _ h => .inl h⟩
    by_cases hbn : b = n
    · subst hbn; exact hs c e f h
    · exact ⟨c, by show w'.heap[b]? = _; rw [hh b (Array.getElem?_eq_some_iff.1 h).1 hbn]; exact h, rfl⟩
  have H : HEvo X ⟨X.ρ, hpSet X.hp id B', X.F, w'⟩ := by
    refine ⟨fun j b hb hnf => ?_, fun _ _ _ _ => rfl⟩
    by_cases hj : j = id
    · subst hj; rw [hB] at hb; cases hb; exact ⟨B', hpSet_same _ _ _, he⟩
    · exact ⟨b, hpSet_old _ _ _ hj hb, .refl hnf⟩
  refine ⟨⟨fun j b hb => ?_, fun i j b c c' h1 h2 h3 h4 h5 h6 => ?_, fun b hb => ?_⟩, W, H⟩
  · rcases hpSet_cases hb with ⟨rfl, rfl⟩ | ⟨hj, h4⟩ | ⟨_, rfl⟩
    · exact hrb W H
    · exact (ok.blk j b h4).evo W H ok.fo rfl fun hl2 m hm => hh m (ok.lt ⟨j, b, h4, hl2, hm⟩) fun e => hj (ok.inj j id n b B h4 hl2 hB hl (e ▸ hm) hρ)
    · trivial
  · simp only at h1 h3 h5 h6
    rcases hpSet_cases h1 with ⟨rfl, rfl⟩ | ⟨hj, g1⟩ | ⟨_, rfl⟩
    · rcases hpSet_cases h3 with ⟨rfl, rfl⟩ | ⟨hj', g3⟩ | ⟨_, rfl⟩
      · rfl
      · exact ok.inj i j b B c' hB hl g3 h4 h5 h6
      · cases h4
    · rcases hpSet_cases h3 with ⟨rfl, rfl⟩ | ⟨hj', g3⟩ | ⟨_, rfl⟩
      · exact ok.inj i j b c B g1 h2 hB hl h5 h6
      · exact ok.inj i j b c c' g1 h2 g3 h4 h5 h6
      · cases h4
    · cases h2
  · have := ok.fo b hb
    exact ⟨Nat.lt_of_lt_of_le this.1 hsz, fun ho => this.2 (hown b ho)⟩

/-- A ROW OF OURS HANDED ON TO A NEW NUMBER: it stays where it is, or lies in a new block. -/
theorem move_ok {X : Cx} (ok : Ok X) {id id' : Nat} {B B' : Blk} (hB : X.hp[id]? = some B) (hl : B.live = true) (hf : X.unused id') {q : Option Nat} {w' : World} {Y : Cx}
    (hY : Y = ⟨upd X.ρ id' q, hpSet (hpSet X.hp id .gone) id' B', X.F, w'⟩)
    (hos : w'.os = X.w.os) (ht : w'.tape = X.w.tape) (hout : w'.output = X.w.output) (hsz : X.w.heap.size ≤ w'.heap.size) (hh : ∀ k, k < X.w.heap.size → X.ρ id ≠ some k → w'.heap[k]? = X.w.heap[k]?)
    (hs : ∀ n, X.ρ id = some n → ∀ (c : Array Value) (e : TypeId) (f : Nat × Nat), X.w.heap[n]? = some (Obj.cells c e f) → ∃ c' : Array Value, w'.heap[n]? = some (Obj.cells c' e f) ∧ c'.size = c.size)
    (hq : q = X.ρ id ∨ ∀ n, q = some n → X.w.heap.size ≤ n)
    (hrb : WEvo X Y → HEvo X Y → RB Y id' B') : Ok Y ∧ WEvo X Y ∧ HEvo X Y := by
  subst hY
  have hne : id ≠ id' := hf.ne hB (live_not_free hl)
  have cs : ∀ {j : Nat} {c : Blk}, (hpSet (hpSet X.hp id .gone) id' B')[j]? = some c → c.live = true → (j = id' ∧ c = B') ∨ (j ≠ id' ∧ j ≠ id ∧ X.hp[j]? = some c) := fun {j c} h hc => by
    rcases hpSet_cases h with ⟨h1, h2⟩ | ⟨h1, h2⟩ | ⟨_, rfl⟩
    · exact .inl ⟨h1, h2⟩
    · rcases hpSet_cases h2 with ⟨_, rfl⟩ | ⟨h3, h4⟩ | ⟨_, rfl⟩
      · cases hc
      · exact .inr ⟨h1, h3, h4⟩
      · cases hc
    · cases hc
  have hown : ∀ b, b < X.w.heap.size → Cx.Own ⟨upd X.ρ id' q, hpSet (hpSet X.hp id .gone) id' B', X.F, w'⟩ b → X.Own b := by
    rintro b hb ⟨j, c, h1, h2, h3⟩
    simp only at h1 h3
    rcases cs h1 h2 with ⟨rfl, _⟩ | ⟨hj, _, h4⟩
    · rw [upd_same] at h3
      rcases hq with hq | hq
      · exact ⟨id, B, hB, hl, hq ▸ h3⟩
      · have := hq b h3; omega
    · rw [upd_ne _ _ _ hj] at h3; exact ⟨j, c, h4, h2, h3⟩
  have W : WEvo X ⟨upd X.ρ id' q, hpSet (hpSet X.hp id .gone) id' B', X.F, w'⟩ := by
    refine ⟨hos, ht, hout, hsz, fun b c e f h => ?_, fun b hb ho => hh b hb (fun e => ho ⟨id, B, hB, hl, e⟩), hown, fun _ h => h, fun _ h => .inl h⟩
    by_cases hbn : X.ρ id = some b
    · exact hs b hbn c e f h
    · exact ⟨c, by show w'.heap[b]? = _; rw [hh b (Array.getElem?_eq_some_iff.1 h).1 hbn]; exact h, rfl⟩
  have H : HEvo X ⟨upd X.ρ id' q, hpSet (hpSet X.hp id .gone) id' B', X.F, w'⟩ := by
    refine ⟨fun j b hb hnf => ?_, fun j b hb hnf => upd_ne _ _ _ (hf.ne hb hnf)⟩
    have h1 := hf.ne hb hnf
    by_cases hj : j = id
    · subst hj; exact ⟨.gone, hpSet_old _ _ _ h1 (hpSet_same _ _ _), .gone _⟩
    · exact ⟨b, hpSet_old _ _ _ h1 (hpSet_old _ _ _ hj hb), .refl hnf⟩
  refine ⟨⟨fun j b hb => ?_, fun i j b c c' h1 h2 h3 h4 h5 h6 => ?_, fun b hb => ?_⟩, W, H⟩
  · by_cases hlb : b.live = true
    · rcases cs hb hlb with ⟨rfl, rfl⟩ | ⟨hj, hj2, h4⟩
      · exact hrb W H
      · exact (ok.blk j b h4).evo W H ok.fo (upd_ne _ _ _ hj) fun _ m hm => hh m (ok.lt ⟨j, b, h4, hlb, hm⟩) fun e => hj2 (ok.inj j id m b B h4 hlb hB hl hm e)
    · cases b <;> first | trivial | (simp [Blk.live] at hlb)
  · simp only at h1 h3 h5 h6
    rcases cs h1 h2 with ⟨rfl, rfl⟩ | ⟨hj, hj2, g1⟩
    · rcases cs h3 h4 with ⟨rfl, rfl⟩ | ⟨hj', hj2', g3⟩
      · rfl
      · rw [upd_same] at h5; rw [upd_ne _ _ _ hj'] at h6
        rcases hq with hq | hq
        · exact absurd (ok.inj j id b c' B g3 h4 hB hl h6 (hq ▸ h5)) hj2'
        · have := hq b h5; have := ok.lt ⟨j, c', g3, h4, h6⟩; omega
    · rcases cs h3 h4 with ⟨rfl, rfl⟩ | ⟨hj', hj2', g3⟩
      · rw [upd_same] at h6; rw [upd_ne _ _ _ hj] at h5
        rcases hq with hq | hq
        · exact absurd (ok.inj i id b c B g1 h2 hB hl h5 (hq ▸ h6)) hj2
        · have := hq b h6; have := ok.lt ⟨i, c, g1, h2, h5⟩; omega
      · rw [upd_ne _ _ _ hj] at h5; rw [upd_ne _ _ _ hj'] at h6
        exact ok.inj i j b c c' g1 h2 g3 h4 h5 h6
  · have := ok.fo b hb
    exact ⟨Nat.lt_of_lt_of_le this.1 hsz, fun ho => this.2 (hown b this.1 ho)⟩

end Go.Ev
