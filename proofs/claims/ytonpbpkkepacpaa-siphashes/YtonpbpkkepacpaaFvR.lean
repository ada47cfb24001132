/-
  NUMBERS CHANGED: what a state tells stays told when its blocks are numbered anew.
-/
import Derived.Test.YtonpbpkkepacpaaFvQA
set_option linter.all false
namespace Go.Ev

/-- The same blocks under other numbers; 'sl': what is read in the blocks that nobody writes stays too. -/
structure Emb (X Z : Cx) (f : Nat → Option Nat) (sl : Bool) : Prop where
  hp : ∀ (id i : Nat) (b : Blk), f id = some i → X.hp[id]? = some b → Z.hp[i]? = some (b.ren f)
  ρ : ∀ (id i : Nat) (b : Blk), f id = some i → X.hp[id]? = some b → Z.ρ i = X.ρ id
  w : Z.w = X.w
  F : sl = true → ∀ b, X.F b → Z.F b

theorem RP.noSl {F F' : Nat → Prop} {w w' : World} : ∀ {K : Kind} {x : K.den} {cs : List Value}, K.hasSl = false → RP F w K x cs → RP F' w' K x cs
  | .int _, _, _, _, h => h
  | .bool, _, _, _, h => h
  | .str, _, _, _, h => h
  | .opq, _, _, _, h => h
  | .unit, _, _, _, h => h
  | .pair a b, _, _, hs, h => by
    simp only [Kind.hasSl, Bool.or_eq_false_iff] at hs
    obtain ⟨c1, c2, rfl, h1, h2⟩ := h
    exact ⟨c1, c2, rfl, RP.noSl hs.1 h1, RP.noSl hs.2 h2⟩
  | .arr n e, _, _, hs, h => by
    simp only [Kind.hasSl] at hs
    obtain ⟨hl, css, rfl, h1⟩ := h
    exact ⟨hl, css, rfl, h1.imp fun _ _ _ _ h => RP.noSl hs h⟩
  | .sl e, _, _, hs, _ => by simp [Kind.hasSl] at hs

section
variable {X Z : Cx} {f : Nat → Option Nat} {sl : Bool} (E : Emb X Z f sl)
include E

theorem Emb.data {K : Kind} {x : K.den} {cs : List Value} (hs : K.hasSl = true → sl = true) (h : RP X.F X.w K x cs) : RP Z.F Z.w K x cs := by
  cases hK : K.hasSl with
  | true => exact RP.mono (E.F (hs hK)) (fun b _ => by rw [E.w]) h
  | false => exact RP.noSl hK h

theorem R1.emb {v : AV} {u : Value} (hs : v.hasSl = true → sl = true) (h : R1 X v u) : R1 Z (v.ren1 f) u := by
  have ho := h.one
  cases v with
  | row id =>
    simp only [AV.ren1]
    cases hf : f id with
    | none => exact ho
    | some i =>
      simp only [R1] at h ⊢
      split at h
      · rename_i e K xs heq; rw [E.hp id i _ hf heq]; simp only [Blk.ren, E.ρ id i _ hf heq, E.w]; exact h
      · rename_i heq; rw [E.hp id i _ hf heq]; exact ho
      · exact h.elim
  | sub id lo len =>
    simp only [AV.ren1]
    cases hf : f id with
    | none => exact ho
    | some i =>
      simp only [R1] at h ⊢
      split at h
      · rename_i e K xs heq; rw [E.hp id i _ hf heq]; simp only [Blk.ren, E.ρ id i _ hf heq, E.w]; exact h
      · rename_i heq; rw [E.hp id i _ hf heq]; exact ho
      · exact h.elim
  | ptr id path =>
    simp only [AV.ren1]
    cases hf : f id with
    | none => exact ho
    | some i =>
      simp only [R1] at h ⊢
      split at h
      · rename_i e K xs heq; rw [E.hp id i _ hf heq]; simp only [Blk.ren, E.ρ id i _ hf heq, E.w]; exact h
      · rename_i e K xs heq; rw [E.hp id i _ hf heq]; simp only [Blk.ren, E.ρ id i _ hf heq, E.w]; exact h
      · rename_i heq; rw [E.hp id i _ hf heq]; exact ho
      · exact h.elim
  | slc id path lo len =>
    simp only [AV.ren1]
    cases hf : f id with
    | none => exact ho
    | some i =>
      simp only [R1] at h ⊢
      split at h
      · rename_i e K xs heq; rw [E.hp id i _ hf heq]; simp only [Blk.ren, E.ρ id i _ hf heq, E.w]; exact h
      · rename_i heq; rw [E.hp id i _ hf heq]; exact ho
      · exact h.elim
  | mp id =>
    simp only [AV.ren1]
    cases hf : f id with
    | none => exact ho
    | some i =>
      simp only [R1] at h ⊢
      split at h
      · rename_i e K xs heq; rw [E.hp id i _ hf heq]; simp only [Blk.ren, E.ρ id i _ hf heq, E.w]; exact h
      · rename_i heq; rw [E.hp id i _ hf heq]; exact ho
      · exact h.elim
  | nilp => exact h
  | vp K x =>
    obtain ⟨ad, cs, rfl, hF, h1, h2⟩ := h
    have hsl := hs rfl
    exact ⟨ad, cs, rfl, E.F hsl _ hF, E.data (fun _ => hsl) h1, fun j u hu => by rw [E.w]; exact h2 j u hu⟩
  | any => exact h
  | p K x => exact h.elim
  | pr a b => exact h.elim
  | tup vs => exact h.elim

theorem RA.emb : ∀ {v : AV} {cs : List Value}, (v.hasSl = true → sl = true) → RA X v cs → RA Z (v.ren1 f) cs
  | .p K x, cs, hs, h => E.data hs h
  | .pr a b, cs, hs, h => by
    simp only [AV.hasSl, Bool.or_eq_true] at hs
    obtain ⟨c1, c2, rfl, h1, h2⟩ := h
    exact ⟨c1, c2, rfl, RA.emb (fun h => hs (.inl h)) h1, RA.emb (fun h => hs (.inr h)) h2⟩
  | .any, cs, hs, h => by obtain ⟨u, rfl, h⟩ := h; exact ⟨u, rfl, R1.emb E hs h⟩
  | .row id, cs, hs, h => by
    obtain ⟨u, rfl, h⟩ := h
    have := R1.emb E hs h
    simp only [AV.ren1] at this ⊢
    revert this
    cases f id <;> exact fun this => ⟨u, rfl, this⟩
  | .sub id _ _, cs, hs, h => by
    obtain ⟨u, rfl, h⟩ := h
    have := R1.emb E hs h
    simp only [AV.ren1] at this ⊢
    revert this
    cases f id <;> exact fun this => ⟨u, rfl, this⟩
  | .ptr id _, cs, hs, h => by
    obtain ⟨u, rfl, h⟩ := h
    have := R1.emb E hs h
    simp only [AV.ren1] at this ⊢
    revert this
    cases f id <;> exact fun this => ⟨u, rfl, this⟩
  | .slc id _ _ _, cs, hs, h => by
    obtain ⟨u, rfl, h⟩ := h
    have := R1.emb E hs h
    simp only [AV.ren1] at this ⊢
    revert this
    cases f id <;> exact fun this => ⟨u, rfl, this⟩
  | .mp id, cs, hs, h => by
    obtain ⟨u, rfl, h⟩ := h
    have := R1.emb E hs h
    simp only [AV.ren1] at this ⊢
    revert this
    cases f id <;> exact fun this => ⟨u, rfl, this⟩
  | .nilp, cs, hs, h => by obtain ⟨u, rfl, h⟩ := h; exact ⟨u, rfl, R1.emb E hs h⟩
  | .vp _ _, cs, hs, h => by obtain ⟨u, rfl, h⟩ := h; exact ⟨u, rfl, R1.emb E hs h⟩
  | .tup _, cs, hs, h => by obtain ⟨u, rfl, h⟩ := h; exact h.elim

omit E in
theorem ren1_agg {v : AV} : (v.ren1 f).agg = v.agg := by
  cases v <;> simp only [AV.ren1] <;> first | rfl | (rename_i id; cases f id <;> rfl) | (rename_i id _; cases f id <;> rfl) | (rename_i id _ _; cases f id <;> rfl) | (rename_i id _ _ _; cases f id <;> rfl)

theorem RS0.emb {v : AV} {u : Value} (hs : v.hasSl = true → sl = true) (h : RS0 X v u) : RS0 Z (v.ren1 f) u := by
  rcases h with h | ⟨cs, h1, h2⟩
  · left; cases v <;> first | exact h | cases h
  · exact .inr ⟨cs, RA.emb E hs h1, by rw [ren1_agg]; exact h2⟩

theorem RS.emb {v : AV} {u : Value} (hs : v.hasSl = true → sl = true) (h : RS X v u) : RS Z (v.ren f) u := by
  cases v with
  | tup vs =>
    obtain ⟨us, rfl, h⟩ := h
    refine ⟨us, rfl, ?_⟩
    have key : ∀ {vs : List AV} {us : List Value}, All2 (RS0 X) vs us → (∀ v ∈ vs, v.hasSl = true → sl = true) → All2 (RS0 Z) (vs.map fun v => v.ren1 f) us := fun {vs us} h => by
      induction h with
      | nil => intro _; exact .nil
      | cons h1 _ ih => intro hs; exact .cons (RS0.emb E (hs _ (by simp)) h1) (ih fun v hv => hs v (by simp [hv]))
    refine key h fun v hv hsl => hs ?_
    simp only [AV.hasSl, List.any_eq_true]
    refine ⟨v, hv, ?_⟩
    cases v <;> first | exact hsl | rfl
  | p K x => exact RS0.emb E hs h
  | pr a b => exact RS0.emb E hs h
  | any => exact RS.any _
  | nilp => exact RS0.emb E hs h
  | vp K x => exact RS0.emb E hs h
  | row id => have := RS0.emb E hs h; simp only [AV.ren, AV.ren1] at this ⊢; revert this; cases f id <;> exact fun this => this
  | sub id _ _ => have := RS0.emb E hs h; simp only [AV.ren, AV.ren1] at this ⊢; revert this; cases f id <;> exact fun this => this
  | ptr id _ => have := RS0.emb E hs h; simp only [AV.ren, AV.ren1] at this ⊢; revert this; cases f id <;> exact fun this => this
  | slc id _ _ _ => have := RS0.emb E hs h; simp only [AV.ren, AV.ren1] at this ⊢; revert this; cases f id <;> exact fun this => this
  | mp id => have := RS0.emb E hs h; simp only [AV.ren, AV.ren1] at this ⊢; revert this; cases f id <;> exact fun this => this

omit E in
theorem fits_ren1 : ∀ {v : AV} {K : Kind}, v.fits K = true → (v.ren1 f).fits K = true
  | .p _ _, _, h => h
  | .pr a b, .pair x y, h => by
    simp only [AV.fits, Bool.and_eq_true, AV.ren1] at h ⊢
    exact ⟨fits_ren1 h.1, fits_ren1 h.2⟩
  | .pr _ _, .int _, h => by simp [AV.fits] at h
  | .pr _ _, .bool, h => by simp [AV.fits] at h
  | .pr _ _, .str, h => by simp [AV.fits] at h
  | .pr _ _, .opq, h => by simp [AV.fits] at h
  | .pr _ _, .unit, h => by simp [AV.fits] at h
  | .pr _ _, .arr _ _, h => by simp [AV.fits] at h
  | .pr _ _, .sl _, h => by simp [AV.fits] at h
  | .any, _, h => h
  | .nilp, _, h => h
  | .vp _ _, _, h => h
  | .tup _, _, h => by cases h
  | .row id, K, h => by cases K <;> simp [AV.fits] at h; simp only [AV.ren1]; cases f id <;> rfl
  | .sub id _ _, K, h => by cases K <;> simp [AV.fits] at h; simp only [AV.ren1]; cases f id <;> rfl
  | .slc id _ _ _, K, h => by cases K <;> simp [AV.fits] at h; simp only [AV.ren1]; cases f id <;> rfl
  | .ptr id _, K, h => by cases K <;> simp [AV.fits] at h; simp only [AV.ren1]; cases f id <;> rfl
  | .mp id, K, h => by cases K <;> simp [AV.fits] at h; simp only [AV.ren1]; cases f id <;> rfl

omit E in
theorem ren_eq {v : AV} (h : ∀ vs, v ≠ .tup vs) : v.ren f = v.ren1 f := by cases v <;> first | rfl | exact absurd rfl (h _)

theorem RB.emb {id i : Nat} {b : Blk} (hf : f id = some i) (hb : X.hp[id]? = some b) (hs : b.hasSl = true → sl = true) (h : RB X id b) : RB Z i (b.ren f) := by
  cases b with
  | var t K v =>
    obtain ⟨h1, n, cs, h2, h3, h4⟩ := h
    have e := ren_eq (f := f) (fits_noTup h1)
    exact ⟨by rw [e]; exact fits_ren1 h1, n, cs, by rw [E.ρ id i _ hf hb]; exact h2, by rw [E.w]; exact h3, by rw [e]; exact RA.emb E hs h4⟩
  | row e K xs =>
    rcases h with ⟨h1, h2⟩ | ⟨n, cur, cap, css, h1, h2, h3, h4, h5, h6, h7⟩
    · exact .inl ⟨by rw [E.ρ id i _ hf hb]; exact h1, h2⟩
    · exact .inr ⟨n, cur, cap, css, by rw [E.ρ id i _ hf hb]; exact h1, by rw [E.w]; exact h2, h3, h4, h5, h6.imp fun _ _ _ _ hr => E.data hs hr, h7⟩
  | map KK KV es =>
    obtain ⟨n, mes, clock, h1, h2, h3⟩ := h
    simp only [Blk.hasSl, Bool.or_eq_true] at hs
    have d : ∀ {K : Kind} {x : K.den} {u : Value}, (K.hasSl = true → sl = true) → RS0 X (.p K x) u → RS0 Z (.p K x) u := fun {K x u} hs h => RS0.emb E (v := .p K x) hs h
    exact ⟨n, mes, clock, by rw [E.ρ id i _ hf hb]; exact h1, by rw [E.w]; exact h2, h3.imp fun _ _ _ _ hr => ⟨d (fun h => hs (.inl h)) hr.1, d (fun h => hs (.inr h)) hr.2⟩⟩
  | gone => trivial
  | free => trivial
end

end Go.Ev
