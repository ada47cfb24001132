/-
  THE EVALUATOR's STATES AGAINST THE MODEL's: what it means that a world holds the data that an abstract state tells; parts of data are parts of cells.
-/
import Derived.Test.YtonpbpkkepacpaaFvA
set_option linter.all false
namespace Go.Ev

inductive All2 {α β : Type} (R : α → β → Prop) : List α → List β → Prop where
  | nil : All2 R [] []
  | cons {a : α} {b : β} {as : List α} {bs : List β} : R a b → All2 R as bs → All2 R (a :: as) (b :: bs)

namespace All2
variable {α β : Type} {R S : α → β → Prop}
theorem length {as : List α} {bs : List β} (h : All2 R as bs) : as.length = bs.length := by
  induction h with
  | nil => rfl
  | cons _ _ ih => simp [ih]
theorem imp {as : List α} {bs : List β} (h : All2 R as bs) (f : ∀ a b, a ∈ as → b ∈ bs → R a b → S a b) : All2 S as bs := by
  induction h with
  | nil => exact .nil
  | cons h1 _ ih => exact .cons (f _ _ (by simp) (by simp) h1) (ih fun a b ha hb => f a b (by simp [ha]) (by simp [hb]))
theorem get {as : List α} {bs : List β} (h : All2 R as bs) : ∀ {i : Nat} {a : α}, as[i]? = some a → ∃ b, bs[i]? = some b ∧ R a b := by
  induction h with
  | nil => intro i a h; simp at h
  | cons h1 _ ih =>
    intro i a h
    cases i with
    | zero => simp at h; subst h; exact ⟨_, by simp, h1⟩
    | succ i => simp at h; simpa using ih h
theorem get' {as : List α} {bs : List β} (h : All2 R as bs) : ∀ {i : Nat} {b : β}, bs[i]? = some b → ∃ a, as[i]? = some a ∧ R a b := by
  induction h with
  | nil => intro i a h; simp at h
  | cons h1 _ ih =>
    intro i a h
    cases i with
    | zero => simp at h; subst h; exact ⟨_, by simp, h1⟩
    | succ i => simp at h; simpa using ih h
theorem append {as as' : List α} {bs bs' : List β} (h : All2 R as bs) (h' : All2 R as' bs') : All2 R (as ++ as') (bs ++ bs') := by
  induction h with
  | nil => exact h'
  | cons h1 _ ih => exact .cons h1 ih
theorem drop {as : List α} {bs : List β} (h : All2 R as bs) (n : Nat) : All2 R (as.drop n) (bs.drop n) := by
  induction h generalizing n with
  | nil => simp; exact .nil
  | cons h1 h2 ih => cases n with
    | zero => exact .cons h1 h2
    | succ n => simpa using ih n
theorem take {as : List α} {bs : List β} (h : All2 R as bs) (n : Nat) : All2 R (as.take n) (bs.take n) := by
  induction h generalizing n with
  | nil => simp; exact .nil
  | cons h1 h2 ih => cases n with
    | zero => exact .nil
    | succ n => simpa using All2.cons h1 (ih n)
theorem set {as : List α} {bs : List β} (h : All2 R as bs) (i : Nat) {a : α} {b : β} (hab : R a b) : All2 R (as.set i a) (bs.set i b) := by
  induction h generalizing i with
  | nil => simp; exact .nil
  | cons h1 h2 ih => cases i with
    | zero => exact .cons hab h2
    | succ i => exact .cons h1 (ih i)
theorem of_get {as : List α} {bs : List β} (hl : as.length = bs.length) (h : ∀ (i : Nat) (a : α) (b : β), as[i]? = some a → bs[i]? = some b → R a b) : All2 R as bs := by
  induction as generalizing bs with
  | nil => cases bs with
    | nil => exact .nil
    | cons => simp at hl
  | cons a as ih => cases bs with
    | nil => simp at hl
    | cons b bs => exact .cons (h 0 a b (by simp) (by simp)) (ih (by simpa using hl) fun i x y hx hy => h (i + 1) x y (by simpa using hx) (by simpa using hy))
theorem replicate {a : α} {b : β} (h : R a b) : ∀ n, All2 R (List.replicate n a) (List.replicate n b)
  | 0 => .nil
  | n + 1 => .cons h (replicate h n)
end All2

/-- Where blocks lie. -/
abbrev Place := Nat → Option Nat

/-- Where data is read: 'F': the blocks that nobody writes. -/
structure Cx where
  ρ : Place
  hp : List Blk
  F : Nat → Prop
  w : World

def Blk.live : Blk → Bool
  | .var _ _ _ | .row _ _ _ | .map _ _ _ => true
  | _ => false

def Cx.Own (X : Cx) (b : Nat) : Prop := ∃ id blk, X.hp[id]? = some blk ∧ blk.live = true ∧ X.ρ id = some b

/-- Cells as data of a kind. -/
def RP (F : Nat → Prop) (w : World) : (K : Kind) → K.den → List Value → Prop
  | .int k => fun (n : Int) cs => cs = [.int k n]
  | .bool => fun (b : Bool) cs => cs = [.bool b]
  | .str => fun (s : ByteArray) cs => cs = [.string s]
  | .opq => fun _ cs => ∃ v : Value, cs = [v] ∧ v.oneCell' = true
  | .unit => fun _ cs => cs = []
  | .pair a b => fun (x : a.den × b.den) cs => ∃ c1 c2, cs = c1 ++ c2 ∧ RP F w a x.1 c1 ∧ RP F w b x.2 c2
  | .arr n e => fun (l : List e.den) cs => l.length = n ∧ ∃ css, cs = css.flatten ∧ All2 (RP F w e) l css
  | .sl e => fun (l : List e.den) cs => ∃ ao cap, cs = [.slice ao l.length cap] ∧ l.length ≤ cap ∧
      (0 < l.length → ∃ ad css, ao = some ad ∧ F ad.block ∧ All2 (RP F w e) l css ∧ ∀ j v, css.flatten[j]? = some v → w.cell? (ad.add j) = some v)

theorem flatten_length {α : Type} {css : List (List α)} {m : Nat} (h : ∀ c ∈ css, c.length = m) : css.flatten.length = css.length * m := by
  induction css with
  | nil => simp
  | cons c r ih =>
    have h1 := h c (by simp)
    have h2 := ih fun c hc => h c (by simp [hc])
    simp [h1, h2, Nat.add_mul, Nat.add_comm]

theorem RP.length {F : Nat → Prop} {w : World} : ∀ {K : Kind} {x : K.den} {cs : List Value}, RP F w K x cs → cs.length = K.size
  | .int _, _, _, h => by simp [RP] at h; simp [h, Kind.size]
  | .bool, _, _, h => by simp [RP] at h; simp [h, Kind.size]
  | .str, _, _, h => by simp [RP] at h; simp [h, Kind.size]
  | .opq, _, _, h => by obtain ⟨v, rfl, _⟩ := h; simp [Kind.size]
  | .unit, _, _, h => by simp [RP] at h; simp [h, Kind.size]
  | .pair a b, _, _, h => by
    obtain ⟨c1, c2, rfl, h1, h2⟩ := h
    simp [Kind.size, RP.length h1, RP.length h2]
  | .arr n e, _, _, h => by
    obtain ⟨hl, css, rfl, h1⟩ := h
    have h2 : css.flatten.length = css.length * e.size := flatten_length fun c hc => by
      obtain ⟨i, hi⟩ := List.mem_iff_getElem?.1 hc
      obtain ⟨a, _, ha⟩ := h1.get' hi
      exact RP.length ha
    rw [h2, ← h1.length, hl]; rfl
  | .sl e, _, _, h => by obtain ⟨_, _, rfl, _⟩ := h; simp [Kind.size]

theorem RP.one {F : Nat → Prop} {w : World} : ∀ {K : Kind} {x : K.den} {cs : List Value}, RP F w K x cs → ∀ u ∈ cs, u.oneCell' = true
  | .int _, _, _, h => by simp [RP] at h; simp [h, Value.oneCell']
  | .bool, _, _, h => by simp [RP] at h; simp [h, Value.oneCell']
  | .str, _, _, h => by simp [RP] at h; simp [h, Value.oneCell']
  | .opq, _, _, h => by obtain ⟨v, rfl, h1⟩ := h; simp [h1]
  | .unit, _, _, h => by simp [RP] at h; simp [h]
  | .pair a b, _, _, h => by
    obtain ⟨c1, c2, rfl, h1, h2⟩ := h
    intro u hu
    rcases List.mem_append.1 hu with hu | hu
    · exact RP.one h1 u hu
    · exact RP.one h2 u hu
  | .arr n e, _, _, h => by
    obtain ⟨hl, css, rfl, h1⟩ := h
    intro u hu
    obtain ⟨c, hc, hu⟩ := List.mem_flatten.1 hu
    obtain ⟨i, hi⟩ := List.mem_iff_getElem?.1 hc
    obtain ⟨a, _, ha⟩ := h1.get' hi
    exact RP.one ha u hu
  | .sl e, _, _, h => by obtain ⟨_, _, rfl, _⟩ := h; simp [Value.oneCell']

theorem cell?_same {w w' : World} {a : Addr} (h : w'.heap[a.block]? = w.heap[a.block]?) : w'.cell? a = w.cell? a := by
  unfold World.cell?; rw [h]

theorem add_block (a : Addr) (n : Nat) : (a.add n).block = a.block := by unfold Addr.add; split <;> rfl

theorem RP.mono {F F' : Nat → Prop} {w w' : World} (hF : ∀ b, F b → F' b) (hw : ∀ b, F b → w'.heap[b]? = w.heap[b]?) :
    ∀ {K : Kind} {x : K.den} {cs : List Value}, RP F w K x cs → RP F' w' K x cs
  | .int _, _, _, h => h
  | .bool, _, _, h => h
  | .str, _, _, h => h
  | .opq, _, _, h => h
  | .unit, _, _, h => h
  | .pair a b, _, _, h => by
    obtain ⟨c1, c2, rfl, h1, h2⟩ := h
    exact ⟨c1, c2, rfl, RP.mono hF hw h1, RP.mono hF hw h2⟩
  | .arr n e, _, _, h => by
    obtain ⟨hl, css, rfl, h1⟩ := h
    exact ⟨hl, css, rfl, h1.imp fun _ _ _ _ h => RP.mono hF hw h⟩
  | .sl e, _, _, h => by
    obtain ⟨ao, cap, rfl, hcap, h1⟩ := h
    refine ⟨ao, cap, rfl, hcap, fun hl => ?_⟩
    obtain ⟨ad, css, rfl, hf, h2, h3⟩ := h1 hl
    refine ⟨ad, css, rfl, hF _ hf, h2.imp fun _ _ _ _ h => RP.mono hF hw h, fun j v hj => ?_⟩
    rw [cell?_same (w := w) (w' := w') (by rw [add_block]; exact hw _ hf)]
    exact h3 j v hj

/-- The place of a part, in cells, and its kind. -/
def koff : Kind → List Hop → Option (Nat × Kind)
  | K, [] => some (0, K)
  | .pair a _, .fld 0 :: r => koff a r
  | .pair a b, .fld (n + 1) :: r => (koff b (.fld n :: r)).map fun q => (a.size + q.1, q.2)
  | .arr n e, .idx i :: r => if i < n then (koff e r).map fun q => (i * e.size + q.1, q.2) else none
  | _, _ => none

theorem koff_nil (K : Kind) : koff K [] = some (0, K) := by cases K <;> rfl

theorem koff_le : ∀ {K : Kind} {path : List Hop} {off : Nat} {K' : Kind}, koff K path = some (off, K') → off + K'.size ≤ K.size
  | K, [], off, K', h => by rw [koff_nil] at h; simp at h; obtain ⟨rfl, rfl⟩ := h; simp
  | .pair a b, .fld 0 :: r, off, K', h => by
    have := koff_le (K := a) (path := r) (by simpa [koff] using h)
    simp [Kind.size]; omega
  | .pair a b, .fld (n + 1) :: r, off, K', h => by
    simp only [koff, Option.map_eq_some_iff, Prod.exists, Prod.mk.injEq] at h
    obtain ⟨o, k, h, rfl, rfl⟩ := h
    have := koff_le h
    simp [Kind.size]; omega
  | .arr n e, .idx i :: r, off, K', h => by
    simp only [koff] at h
    split at h
    · rename_i hi
      simp only [Option.map_eq_some_iff, Prod.exists, Prod.mk.injEq] at h
      obtain ⟨o, k, h, rfl, rfl⟩ := h
      have := koff_le h
      have h2 : (i + 1) * e.size ≤ n * e.size := Nat.mul_le_mul_right _ hi
      simp [Kind.size, Nat.add_mul] at *; omega
    · cases h
  | .int _, .fld _ :: _, _, _, h => by simp [koff] at h
  | .int _, .idx _ :: _, _, _, h => by simp [koff] at h
  | .bool, .fld _ :: _, _, _, h => by simp [koff] at h
  | .bool, .idx _ :: _, _, _, h => by simp [koff] at h
  | .str, .fld _ :: _, _, _, h => by simp [koff] at h
  | .str, .idx _ :: _, _, _, h => by simp [koff] at h
  | .opq, .fld _ :: _, _, _, h => by simp [koff] at h
  | .opq, .idx _ :: _, _, _, h => by simp [koff] at h
  | .unit, .fld _ :: _, _, _, h => by simp [koff] at h
  | .unit, .idx _ :: _, _, _, h => by simp [koff] at h
  | .sl _, .fld _ :: _, _, _, h => by simp [koff] at h
  | .sl _, .idx _ :: _, _, _, h => by simp [koff] at h
  | .pair _ _, .idx _ :: _, _, _, h => by simp [koff] at h
  | .arr _ _, .fld _ :: _, _, _, h => by simp [koff] at h

/-- A part of a list, and a part replaced. -/
def cut {α : Type} (cs : List α) (off n : Nat) : List α := (cs.drop off).take n
def splice {α : Type} (cs : List α) (off : Nat) (vc : List α) : List α := cs.take off ++ vc ++ cs.drop (off + vc.length)

theorem cut_append_left {α : Type} {a b : List α} {off n : Nat} (h : off + n ≤ a.length) : cut (a ++ b) off n = cut a off n := by
  unfold cut
  rw [List.drop_append_of_le_length (by omega), List.take_append_of_le_length (by simp; omega)]
theorem cut_append_right {α : Type} {a b : List α} {off n : Nat} : cut (a ++ b) (a.length + off) n = cut b off n := by
  unfold cut
  rw [List.drop_length_add_append]
theorem cut_all {α : Type} (a : List α) {n : Nat} (h : n = a.length) : cut a 0 n = a := by subst h; simp [cut]
theorem splice_append_left {α : Type} {a b v : List α} {off : Nat} (h : off + v.length ≤ a.length) : splice (a ++ b) off v = splice a off v ++ b := by
  unfold splice
  rw [List.take_append_of_le_length (by omega), List.drop_append_of_le_length (by omega)]
  simp
theorem splice_append_right {α : Type} {a b v : List α} {off : Nat} : splice (a ++ b) (a.length + off) v = a ++ splice b off v := by
  unfold splice
  rw [List.take_length_add_append, Nat.add_assoc, List.drop_length_add_append]
  simp
theorem splice_all {α : Type} {a v : List α} (h : v.length = a.length) : splice a 0 v = v := by unfold splice; simp [h]

theorem flatten_cut {css : List (List Value)} {m : Nat} (h : ∀ c ∈ css, c.length = m) : ∀ {i : Nat} {c : List Value} {o n : Nat}, css[i]? = some c → o + n ≤ m → cut css.flatten (i * m + o) n = cut c o n := by
  induction css with
  | nil => intro i c o n hi; simp at hi
  | cons d r ih =>
    intro i c o n hi hn
    have hd := h d (by simp)
    cases i with
    | zero =>
      simp at hi; subst hi
      simp only [List.flatten_cons, Nat.zero_mul, Nat.zero_add]
      exact cut_append_left (by omega)
    | succ i =>
      simp at hi
      simp only [List.flatten_cons]
      rw [show (i + 1) * m + o = d.length + (i * m + o) by rw [hd, Nat.add_mul]; omega, cut_append_right]
      exact ih (fun c hc => h c (by simp [hc])) hi hn

theorem flatten_splice {css : List (List Value)} {m : Nat} (h : ∀ c ∈ css, c.length = m) : ∀ {i : Nat} {c v : List Value} {o : Nat}, css[i]? = some c → o + v.length ≤ m →
    splice css.flatten (i * m + o) v = (css.set i (splice c o v)).flatten := by
  induction css with
  | nil => intro i c v o hi; simp at hi
  | cons d r ih =>
    intro i c v o hi hn
    have hd := h d (by simp)
    cases i with
    | zero =>
      simp at hi; subst hi
      simp only [List.flatten_cons, Nat.zero_mul, Nat.zero_add, List.set_cons_zero]
      exact splice_append_left (by omega)
    | succ i =>
      simp at hi
      simp only [List.flatten_cons, List.set_cons_succ]
      rw [show (i + 1) * m + o = d.length + (i * m + o) by rw [hd, Nat.add_mul]; omega, splice_append_right]
      rw [ih (fun c hc => h c (by simp [hc])) hi hn]

theorem All2.lens {F : Nat → Prop} {w : World} {e : Kind} {l : List e.den} {css : List (List Value)} (h : All2 (RP F w e) l css) : ∀ c ∈ css, c.length = e.size := fun c hc => by
  obtain ⟨i, hi⟩ := List.mem_iff_getElem?.1 hc
  obtain ⟨a, _, ha⟩ := h.get' hi
  exact RP.length ha

variable {A : Type}

theorem getK_sound {out : A} : ∀ {K : Kind} {path : List Hop} {x : K.den} {k : AV → Option A}, getK K path x k = some out →
    ∃ (K' : Kind) (y : K'.den), k (.p K' y) = some out ∧ ∀ {F : Nat → Prop} {w : World} {cs : List Value}, RP F w K x cs → ∃ off, koff K path = some (off, K') ∧ RP F w K' y (cut cs off K'.size)
  | .pair a b, path, x, k, h => by
    match path with
    | [] => exact ⟨_, x, by simpa [getK] using h, fun {F w cs} hr => ⟨0, rfl, by rw [cut_all _ (RP.length hr).symm]; exact hr⟩⟩
    | .fld 0 :: r =>
      obtain ⟨K', y, h1, h2⟩ := getK_sound (K := a) (path := r) (x := x.1) (k := k) (by simpa [getK] using h)
      refine ⟨K', y, h1, fun {F w cs} hr => ?_⟩
      obtain ⟨c1, c2, rfl, hr1, hr2⟩ := hr
      obtain ⟨off, ho, hy⟩ := h2 hr1
      have hle := koff_le ho
      exact ⟨off, by simpa [koff] using ho, by rw [cut_append_left (by rw [RP.length hr1]; exact hle)]; exact hy⟩
    | .fld (n + 1) :: r =>
      obtain ⟨K', y, h1, h2⟩ := getK_sound (K := b) (path := .fld n :: r) (x := x.2) (k := k) (by simpa [getK] using h)
      refine ⟨K', y, h1, fun {F w cs} hr => ?_⟩
      obtain ⟨c1, c2, rfl, hr1, hr2⟩ := hr
      obtain ⟨off, ho, hy⟩ := h2 hr2
      exact ⟨a.size + off, by simp [koff, ho], by rw [← RP.length hr1, cut_append_right]; exact hy⟩
    | .idx i :: r => simp [getK] at h
  | .arr n e, path, l, k, h => by
    match path with
    | [] => exact ⟨_, l, by simpa [getK] using h, fun {F w cs} hr => ⟨0, rfl, by rw [cut_all _ (RP.length hr).symm]; exact hr⟩⟩
    | .idx i :: r =>
      simp only [getK, Option.bind_eq_some_iff] at h
      obtain ⟨x, hx, h⟩ := h
      obtain ⟨K', y, h1, h2⟩ := getK_sound h
      refine ⟨K', y, h1, fun {F w cs} hr => ?_⟩
      obtain ⟨hl, css, rfl, hr1⟩ := hr
      obtain ⟨c, hc, hxc⟩ := hr1.get hx
      obtain ⟨off, ho, hy⟩ := h2 hxc
      have hle := koff_le ho
      have hi : i < n := by rw [← hl]; exact (List.getElem?_eq_some_iff.1 hx).1
      exact ⟨i * e.size + off, by simp [koff, hi, ho], by rw [flatten_cut hr1.lens hc hle]; exact hy⟩
    | .fld i :: r => simp [getK] at h
  | .int q, path, x, k, h => by
    match path with
    | [] => exact ⟨_, x, by simpa [getK] using h, fun {F w cs} hr => ⟨0, rfl, by rw [cut_all _ (RP.length hr).symm]; exact hr⟩⟩
    | _ :: _ => simp [getK] at h
  | .bool, path, x, k, h => by
    match path with
    | [] => exact ⟨_, x, by simpa [getK] using h, fun {F w cs} hr => ⟨0, rfl, by rw [cut_all _ (RP.length hr).symm]; exact hr⟩⟩
    | _ :: _ => simp [getK] at h
  | .str, path, x, k, h => by
    match path with
    | [] => exact ⟨_, x, by simpa [getK] using h, fun {F w cs} hr => ⟨0, rfl, by rw [cut_all _ (RP.length hr).symm]; exact hr⟩⟩
    | _ :: _ => simp [getK] at h
  | .opq, path, x, k, h => by
    match path with
    | [] => exact ⟨_, x, by simpa [getK] using h, fun {F w cs} hr => ⟨0, rfl, by rw [cut_all _ (RP.length hr).symm]; exact hr⟩⟩
    | _ :: _ => simp [getK] at h
  | .unit, path, x, k, h => by
    match path with
    | [] => exact ⟨_, x, by simpa [getK] using h, fun {F w cs} hr => ⟨0, rfl, by rw [cut_all _ (RP.length hr).symm]; exact hr⟩⟩
    | _ :: _ => simp [getK] at h
  | .sl e, path, x, k, h => by
    match path with
    | [] => exact ⟨_, x, by simpa [getK] using h, fun {F w cs} hr => ⟨0, rfl, by rw [cut_all _ (RP.length hr).symm]; exact hr⟩⟩
    | _ :: _ => simp [getK] at h

end Go.Ev
