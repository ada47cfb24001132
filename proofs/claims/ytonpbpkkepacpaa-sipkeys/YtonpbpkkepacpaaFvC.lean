/-
  THE EVALUATOR's STATES AGAINST THE MODEL's, MORE: slots, blocks, whole contexts; what stays when a world goes on.
-/
import Derived.Test.YtonpbpkkepacpaaFvB
set_option linter.all false
namespace Go.Ev

/-- Is it a struct's or an array's value? -/
def AV.agg : AV → Bool
  | .p K _ => K.isAgg
  | .pr _ _ => true
  | _ => false

/-- A cell that is no data of its own. -/
def R1 (X : Cx) : AV → Value → Prop
  | .row id, v => match X.hp[id]? with
    | some (.row e K xs) => (X.ρ id = none ∧ xs.length = 0 ∧ v = .slice none 0 0) ∨
        (∃ b cap cur, X.ρ id = some b ∧ v = .slice (some ⟨b, 0, none⟩) xs.length cap ∧ X.w.heap[b]? = some (.cells cur e (0, 0)) ∧ cur.size = cap * K.size ∧ xs.length ≤ cap)
    | some .gone => v.oneCell' = true
    | _ => False
  | .sub id lo len, v => match X.hp[id]? with
    | some (.row _ K xs) => lo + len ≤ xs.length ∧ ∃ ao c, v = .slice ao len c ∧ len ≤ c ∧ (0 < len → ∃ b, X.ρ id = some b ∧ ao = some ⟨b, lo * K.size, none⟩)
    | some .gone => v.oneCell' = true
    | _ => False
  | .ptr id path, v => match X.hp[id]? with
    | some (.var _ K _) => ∃ b off K', X.ρ id = some b ∧ koff K path = some (off, K') ∧ v = .pointer (some ⟨b, off, none⟩)
    | some (.row _ K xs) => ∃ b i r off K', path = .idx i :: r ∧ i < xs.length ∧ X.ρ id = some b ∧ koff K r = some (off, K') ∧ v = .pointer (some ⟨b, i * K.size + off, none⟩)
    | some .gone => v.oneCell' = true
    | _ => False
  | .slc id path lo len, v => match X.hp[id]? with
    | some (.var _ K _) => ∃ b off n e, X.ρ id = some b ∧ koff K path = some (off, .arr n e) ∧ lo + len ≤ n ∧ ∃ ao c, v = .slice ao len c ∧ len ≤ c ∧ (0 < len → ao = some ⟨b, off + lo * e.size, none⟩)
    | some .gone => v.oneCell' = true
    | _ => False
  | .mp id, v => match X.hp[id]? with
    | some (.map _ _ _) => ∃ b, X.ρ id = some b ∧ v = .map (some b)
    | some .gone => v.oneCell' = true
    | _ => False
  | .nilp, v => v = .pointer none
  | .vp K x, v => ∃ ad cs, v = .pointer (some ad) ∧ X.F ad.block ∧ RP X.F X.w K x cs ∧ ∀ j u, cs[j]? = some u → X.w.cell? (ad.add j) = some u
  | .any, v => v.oneCell' = true
  | _, _ => False

/-- Cells. -/
def RA (X : Cx) : AV → List Value → Prop
  | .p K x, cs => RP X.F X.w K x cs
  | .pr a b, cs => ∃ c1 c2, cs = c1 ++ c2 ∧ RA X a c1 ∧ RA X b c2
  | av, cs => ∃ v, cs = [v] ∧ R1 X av v

/-- A slot's value, no tuple. -/
def RS0 (X : Cx) (av : AV) (v : Value) : Prop :=
  av.isAny = true ∨ ∃ cs, RA X av cs ∧ ((av.agg = true ∧ v = .agg cs.toArray) ∨ (av.agg = false ∧ cs = [v]))

def RS (X : Cx) (av : AV) (v : Value) : Prop :=
  match av with
  | .tup vs => ∃ us : Array Value, v = .tuple us ∧ All2 (RS0 X) vs us.toList
  | av => RS0 X av v

theorem R1.one {X : Cx} {av : AV} {v : Value} (h : R1 X av v) : v.oneCell' = true := by
  cases av with
  | row id =>
    simp only [R1] at h
    split at h
    · rcases h with ⟨_, _, rfl⟩ | ⟨_, _, _, _, rfl, _⟩ <;> rfl
    · exact h
    · exact h.elim
  | sub id lo len =>
    simp only [R1] at h
    split at h
    · obtain ⟨_, _, _, rfl, _⟩ := h; rfl
    · exact h
    · exact h.elim
  | ptr id path =>
    simp only [R1] at h
    split at h
    · obtain ⟨_, _, _, _, _, rfl⟩ := h; rfl
    · obtain ⟨_, _, _, _, _, _, _, _, _, rfl⟩ := h; rfl
    · exact h
    · exact h.elim
  | slc id path lo len =>
    simp only [R1] at h
    split at h
    · obtain ⟨_, _, _, _, _, _, _, _, _, rfl, _⟩ := h; rfl
    · exact h
    · exact h.elim
  | mp id =>
    simp only [R1] at h
    split at h
    · obtain ⟨_, _, rfl⟩ := h; rfl
    · exact h
    · exact h.elim
  | nilp => simp only [R1] at h; subst h; rfl
  | vp K x => obtain ⟨_, _, rfl, _⟩ := h; rfl
  | any => exact h
  | p K x => exact h.elim
  | pr a b => exact h.elim
  | tup vs => exact h.elim

theorem RA.one {X : Cx} : ∀ {av : AV} {cs : List Value}, RA X av cs → ∀ u ∈ cs, u.oneCell' = true
  | .p K x, cs, h => RP.one h
  | .pr a b, cs, h => by
    obtain ⟨c1, c2, rfl, h1, h2⟩ := h
    intro u hu
    rcases List.mem_append.1 hu with hu | hu
    · exact RA.one h1 u hu
    · exact RA.one h2 u hu
  | .any, cs, h => by obtain ⟨v, rfl, h⟩ := h; intro u hu; simp at hu; subst hu; exact h.one
  | .row _, cs, h => by obtain ⟨v, rfl, h⟩ := h; intro u hu; simp at hu; subst hu; exact h.one
  | .sub _ _ _, cs, h => by obtain ⟨v, rfl, h⟩ := h; intro u hu; simp at hu; subst hu; exact h.one
  | .ptr _ _, cs, h => by obtain ⟨v, rfl, h⟩ := h; intro u hu; simp at hu; subst hu; exact h.one
  | .vp _ _, cs, h => by obtain ⟨v, rfl, h⟩ := h; intro u hu; simp at hu; subst hu; exact h.one
  | .slc _ _ _ _, cs, h => by obtain ⟨v, rfl, h⟩ := h; intro u hu; simp at hu; subst hu; exact h.one
  | .mp _, cs, h => by obtain ⟨v, rfl, h⟩ := h; intro u hu; simp at hu; subst hu; exact h.one
  | .nilp, cs, h => by obtain ⟨v, rfl, h⟩ := h; intro u hu; simp at hu; subst hu; exact h.one
  | .tup _, cs, h => by obtain ⟨v, rfl, h⟩ := h; intro u hu; simp at hu; subst hu; exact h.one

theorem RA.length {X : Cx} : ∀ {av : AV} {K : Kind} {cs : List Value}, av.fits K = true → RA X av cs → cs.length = K.size
  | .p K' x, K, cs, hf, h => by simp [AV.fits] at hf; subst hf; exact RP.length h
  | .pr a b, .pair x y, cs, hf, h => by
    simp [AV.fits] at hf
    obtain ⟨c1, c2, rfl, h1, h2⟩ := h
    simp [Kind.size, RA.length hf.1 h1, RA.length hf.2 h2]
  | .pr a b, .int _, cs, hf, h => by simp [AV.fits] at hf
  | .pr a b, .bool, cs, hf, h => by simp [AV.fits] at hf
  | .pr a b, .str, cs, hf, h => by simp [AV.fits] at hf
  | .pr a b, .opq, cs, hf, h => by simp [AV.fits] at hf
  | .pr a b, .unit, cs, hf, h => by simp [AV.fits] at hf
  | .pr a b, .arr _ _, cs, hf, h => by simp [AV.fits] at hf
  | .pr a b, .sl _, cs, hf, h => by simp [AV.fits] at hf
  | .any, K, cs, hf, h => by obtain ⟨v, rfl, h⟩ := h; cases K <;> simp [AV.fits] at hf <;> rfl
  | .row _, K, cs, hf, h => by obtain ⟨v, rfl, h⟩ := h; cases K <;> simp [AV.fits] at hf <;> rfl
  | .sub _ _ _, K, cs, hf, h => by obtain ⟨v, rfl, h⟩ := h; cases K <;> simp [AV.fits] at hf <;> rfl
  | .ptr _ _, K, cs, hf, h => by obtain ⟨v, rfl, h⟩ := h; cases K <;> simp [AV.fits] at hf <;> rfl
  | .vp _ _, K, cs, hf, h => by obtain ⟨v, rfl, h⟩ := h; cases K <;> simp [AV.fits] at hf <;> rfl
  | .slc _ _ _ _, K, cs, hf, h => by obtain ⟨v, rfl, h⟩ := h; cases K <;> simp [AV.fits] at hf <;> rfl
  | .mp _, K, cs, hf, h => by obtain ⟨v, rfl, h⟩ := h; cases K <;> simp [AV.fits] at hf <;> rfl
  | .nilp, K, cs, hf, h => by obtain ⟨v, rfl, h⟩ := h; cases K <;> simp [AV.fits] at hf <;> rfl
  | .tup _, K, cs, hf, h => by obtain ⟨v, rfl, h⟩ := h; exact h.elim

/-- A kind that is one cell of which there are no parts. -/
theorem fits_agg {av : AV} {K : Kind} (h : av.fits K = true) (ha : av.isAny = false) : av.agg = K.isAgg := by
  cases av <;> cases K <;> simp_all [AV.fits, AV.agg, Kind.isAgg, AV.isAny]
  all_goals (first | rfl | (rename_i h; cases h; rfl) | skip)

theorem RS0.cells {X : Cx} {av : AV} {v : Value} (h : RS0 X av v) (ha : av.isAny = false) : ∃ cs, RA X av cs ∧ v.cells = cs.toArray := by
  rcases h with h | ⟨cs, h1, ⟨_, rfl⟩ | ⟨_, rfl⟩⟩
  · rw [ha] at h; cases h
  · exact ⟨cs, h1, rfl⟩
  · refine ⟨[v], h1, ?_⟩
    have := h1.one v (by simp)
    cases v <;> first | rfl | (simp [Value.oneCell'] at this)

-- ------------------------------------------------------------ parts of what a block holds

variable {A : Type}

theorem RA.single {X : Cx} {av : AV} {cs : List Value} (h1 : ∀ K x, av ≠ .p K x) (h2 : ∀ a b, av ≠ .pr a b) : RA X av cs ↔ ∃ v, cs = [v] ∧ R1 X av v := by
  cases av <;> first | exact Iff.rfl | exact absurd rfl (h1 _ _) | exact absurd rfl (h2 _ _)

theorem getV_sound {out : A} : ∀ {av : AV} {path : List Hop} {k : AV → Option A}, getV av path k = some out →
    ∃ y, k y = some out ∧ ∀ {X : Cx} {K : Kind} {cs : List Value}, av.fits K = true → RA X av cs → ∃ off K', koff K path = some (off, K') ∧ y.fits K' = true ∧ RA X y (cut cs off K'.size)
  | .p K0 x, path, k, h => by
    obtain ⟨K', y, h1, h2⟩ := getK_sound (by simpa [getV] using h)
    refine ⟨_, h1, fun {X K cs} hf hr => ?_⟩
    simp [AV.fits] at hf; subst hf
    obtain ⟨off, ho, hy⟩ := h2 hr
    exact ⟨off, K', ho, by simp [AV.fits], hy⟩
  | .pr a b, path, k, h => by
    match path with
    | [] =>
      refine ⟨_, by simpa [getV] using h, fun {X K cs} hf hr => ⟨0, K, koff_nil K, hf, ?_⟩⟩
      rw [cut_all _ (RA.length hf hr).symm]; exact hr
    | .fld 0 :: r =>
      obtain ⟨y, h1, h2⟩ := getV_sound (av := a) (path := r) (k := k) (by simpa [getV] using h)
      refine ⟨y, h1, fun {X K cs} hf hr => ?_⟩
      cases K <;> simp [AV.fits] at hf
      obtain ⟨c1, c2, rfl, hr1, hr2⟩ := hr
      obtain ⟨off, K', ho, hfy, hy⟩ := h2 hf.1 hr1
      have hle := koff_le ho
      exact ⟨off, K', by simpa [koff] using ho, hfy, by rw [cut_append_left (by rw [RA.length hf.1 hr1]; exact hle)]; exact hy⟩
    | .fld (n + 1) :: r =>
      obtain ⟨y, h1, h2⟩ := getV_sound (av := b) (path := .fld n :: r) (k := k) (by simpa [getV] using h)
      refine ⟨y, h1, fun {X K cs} hf hr => ?_⟩
      cases K <;> simp [AV.fits] at hf
      rename_i Ka Kb
      obtain ⟨c1, c2, rfl, hr1, hr2⟩ := hr
      obtain ⟨off, K', ho, hfy, hy⟩ := h2 hf.2 hr2
      exact ⟨Ka.size + off, K', by simp [koff, ho], hfy, by rw [← RA.length hf.1 hr1, cut_append_right]; exact hy⟩
    | .idx i :: r => simp [getV] at h
  | .any, path, k, h => by
    match path with
    | [] => exact ⟨_, by simpa [getV] using h, fun {X K cs} hf hr => ⟨0, K, koff_nil K, hf, by rw [cut_all _ (RA.length hf hr).symm]; exact hr⟩⟩
    | _ :: _ => simp [getV] at h
  | .row _, path, k, h => by
    match path with
    | [] => exact ⟨_, by simpa [getV] using h, fun {X K cs} hf hr => ⟨0, K, koff_nil K, hf, by rw [cut_all _ (RA.length hf hr).symm]; exact hr⟩⟩
    | _ :: _ => simp [getV] at h
  | .sub _ _ _, path, k, h => by
    match path with
    | [] => exact ⟨_, by simpa [getV] using h, fun {X K cs} hf hr => ⟨0, K, koff_nil K, hf, by rw [cut_all _ (RA.length hf hr).symm]; exact hr⟩⟩
    | _ :: _ => simp [getV] at h
  | .ptr _ _, path, k, h => by
    match path with
    | [] => exact ⟨_, by simpa [getV] using h, fun {X K cs} hf hr => ⟨0, K, koff_nil K, hf, by rw [cut_all _ (RA.length hf hr).symm]; exact hr⟩⟩
    | _ :: _ => simp [getV] at h
  | .vp _ _, path, k, h => by
    match path with
    | [] => exact ⟨_, by simpa [getV] using h, fun {X K cs} hf hr => ⟨0, K, koff_nil K, hf, by rw [cut_all _ (RA.length hf hr).symm]; exact hr⟩⟩
    | _ :: _ => simp [getV] at h
  | .slc _ _ _ _, path, k, h => by
    match path with
    | [] => exact ⟨_, by simpa [getV] using h, fun {X K cs} hf hr => ⟨0, K, koff_nil K, hf, by rw [cut_all _ (RA.length hf hr).symm]; exact hr⟩⟩
    | _ :: _ => simp [getV] at h
  | .mp _, path, k, h => by
    match path with
    | [] => exact ⟨_, by simpa [getV] using h, fun {X K cs} hf hr => ⟨0, K, koff_nil K, hf, by rw [cut_all _ (RA.length hf hr).symm]; exact hr⟩⟩
    | _ :: _ => simp [getV] at h
  | .nilp, path, k, h => by
    match path with
    | [] => exact ⟨_, by simpa [getV] using h, fun {X K cs} hf hr => ⟨0, K, koff_nil K, hf, by rw [cut_all _ (RA.length hf hr).symm]; exact hr⟩⟩
    | _ :: _ => simp [getV] at h
  | .tup _, path, k, h => by
    match path with
    | [] => exact ⟨_, by simpa [getV] using h, fun {X K cs} hf hr => ⟨0, K, koff_nil K, hf, by rw [cut_all _ (RA.length hf hr).symm]; exact hr⟩⟩
    | _ :: _ => simp [getV] at h

theorem mkPair_fits {a b : AV} {x y : Kind} (ha : a.fits x = true) (hb : b.fits y = true) : (mkPair a b).fits (.pair x y) = true := by
  cases a <;> cases b <;> simp_all [mkPair, AV.fits]

theorem mkPair_RA {X : Cx} {a b : AV} {c1 c2 : List Value} (ha : RA X a c1) (hb : RA X b c2) : RA X (mkPair a b) (c1 ++ c2) := by
  unfold mkPair
  split
  · exact ⟨c1, c2, rfl, ha, hb⟩
  · exact ⟨c1, c2, rfl, ha, hb⟩

theorem setIn_sound {out : A} {n : Nat} {e : Kind} {l : List e.den} {i : Nat} {v : AV} {k : List e.den → Option A} (h : setIn n e l i v k = some out) :
    ∃ z : e.den, v = .p e z ∧ i < n ∧ k (l.set i z) = some out := by
  unfold setIn at h
  split at h
  · rename_i e' z
    split at h
    · rename_i he
      subst he
      split at h
      · rename_i hi; exact ⟨z, rfl, hi, h⟩
      · cases h
    · cases h
  · cases h

theorem arr_splice {F : Nat → Prop} {w : World} {e : Kind} {l : List e.den} {css : List (List Value)} (h : All2 (RP F w e) l css) {i : Nat} {c vc : List Value} {off : Nat} {z : e.den}
    (hc : css[i]? = some c) (ho : off + vc.length ≤ e.size) (hz : RP F w e z (splice c off vc)) : ∃ css', splice css.flatten (i * e.size + off) vc = css'.flatten ∧ All2 (RP F w e) (l.set i z) css' :=
  ⟨_, flatten_splice h.lens hc ho, h.set i hz⟩

theorem leaf_set {X : Cx} {K : Kind} {v : AV} {cs vc : List Value} (hf : v.fits K = true) (hl : cs.length = K.size) (hv : RA X v vc) : RA X v (splice cs 0 vc) := by
  rw [splice_all (by rw [RA.length hf hv, hl])]; exact hv

theorem setK_sound {out : A} : ∀ {K : Kind} {path : List Hop} {x : K.den} {v : AV} {k : AV → Option A}, setK K path x v k = some out →
    ∃ y, k y = some out ∧ y.fits K = true ∧ ∀ {X : Cx} {cs vc : List Value}, RP X.F X.w K x cs → RA X v vc → ∃ off K', koff K path = some (off, K') ∧ v.fits K' = true ∧ RA X y (splice cs off vc)
  | .pair a b, path, x, v, k, h => by
    match path with
    | [] =>
      simp only [setK] at h
      split at h
      · rename_i hf; exact ⟨v, h, hf, fun {X cs vc} hr hv => ⟨0, _, rfl, hf, leaf_set hf (RP.length hr) hv⟩⟩
      · cases h
    | .fld 0 :: r =>
      obtain ⟨y, h1, hf, h2⟩ := setK_sound (K := a) (path := r) (x := x.1) (by simpa [setK] using h)
      refine ⟨_, h1, mkPair_fits hf (by simp [AV.fits]), fun {X cs vc} hr hv => ?_⟩
      obtain ⟨c1, c2, rfl, hr1, hr2⟩ := hr
      obtain ⟨off, K', ho, hfv, hy⟩ := h2 hr1 hv
      have hle := koff_le ho
      refine ⟨off, K', by simpa [koff] using ho, hfv, ?_⟩
      rw [splice_append_left (by rw [RP.length hr1, RA.length hfv hv]; exact hle)]
      exact mkPair_RA hy hr2
    | .fld (n + 1) :: r =>
      obtain ⟨y, h1, hf, h2⟩ := setK_sound (K := b) (path := .fld n :: r) (x := x.2) (by simpa [setK] using h)
      refine ⟨_, h1, mkPair_fits (by simp [AV.fits]) hf, fun {X cs vc} hr hv => ?_⟩
      obtain ⟨c1, c2, rfl, hr1, hr2⟩ := hr
      obtain ⟨off, K', ho, hfv, hy⟩ := h2 hr2 hv
      refine ⟨a.size + off, K', by simp [koff, ho], hfv, ?_⟩
      rw [← RP.length hr1, splice_append_right]
      exact mkPair_RA (X := X) (a := .p a x.1) hr1 hy
    | .idx i :: r => simp [setK] at h
  | .arr n e, path, l, v, k, h => by
    match path with
    | [] =>
      simp only [setK] at h
      split at h
      · rename_i hf; exact ⟨v, h, hf, fun {X cs vc} hr hv => ⟨0, _, rfl, hf, leaf_set hf (RP.length hr) hv⟩⟩
      · cases h
    | [.idx i] =>
      simp only [setK] at h
      obtain ⟨z, rfl, hi, h1⟩ := setIn_sound h
      refine ⟨_, h1, by simp [AV.fits], fun {X cs vc} hr hv => ?_⟩
      obtain ⟨hl, css, rfl, hr1⟩ := hr
      obtain ⟨c, hc⟩ : ∃ c, css[i]? = some c := ⟨_, List.getElem?_eq_getElem (by rw [← hr1.length, hl]; exact hi)⟩
      have hvl := RP.length (show RP X.F X.w e z vc from hv)
      have hcl := hr1.lens c (List.mem_of_getElem? hc)
      obtain ⟨css', hs, h2⟩ := arr_splice (z := z) (off := 0) (vc := vc) hr1 hc (by omega) (by rw [splice_all (by omega)]; exact hv)
      exact ⟨i * e.size + 0, e, by simp [koff, hi, koff_nil], by simp [AV.fits], by simp [hl], css', hs, h2⟩
    | .idx i :: hh :: r =>
      simp only [setK, Option.bind_eq_some_iff] at h
      obtain ⟨x, hx, h⟩ := h
      obtain ⟨y, h1, hf, h2⟩ := setK_sound h
      obtain ⟨z, rfl, hi, h3⟩ := setIn_sound h1
      refine ⟨_, h3, by simp [AV.fits], fun {X cs vc} hr hv => ?_⟩
      obtain ⟨hl, css, rfl, hr1⟩ := hr
      obtain ⟨c, hc, hxc⟩ := hr1.get hx
      obtain ⟨off, K', ho, hfv, hy⟩ := h2 hxc hv
      have hle := koff_le ho
      obtain ⟨css', hs, h4⟩ := arr_splice (z := z) hr1 hc (by rw [RA.length hfv hv]; exact hle) hy
      exact ⟨i * e.size + off, K', by simp [koff, hi, ho], hfv, by simp [hl], css', hs, h4⟩
    | .fld i :: r => simp [setK] at h
  | .int q, path, x, v, k, h => by
    match path with
    | [] =>
      simp only [setK] at h
      split at h
      · rename_i hf; exact ⟨v, h, hf, fun {X cs vc} hr hv => ⟨0, _, rfl, hf, leaf_set hf (RP.length hr) hv⟩⟩
      · cases h
    | _ :: _ => simp [setK] at h
  | .bool, path, x, v, k, h => by
    match path with
    | [] =>
      simp only [setK] at h
      split at h
      · rename_i hf; exact ⟨v, h, hf, fun {X cs vc} hr hv => ⟨0, _, rfl, hf, leaf_set hf (RP.length hr) hv⟩⟩
      · cases h
    | _ :: _ => simp [setK] at h
  | .str, path, x, v, k, h => by
    match path with
    | [] =>
      simp only [setK] at h
      split at h
      · rename_i hf; exact ⟨v, h, hf, fun {X cs vc} hr hv => ⟨0, _, rfl, hf, leaf_set hf (RP.length hr) hv⟩⟩
      · cases h
    | _ :: _ => simp [setK] at h
  | .opq, path, x, v, k, h => by
    match path with
    | [] =>
      simp only [setK] at h
      split at h
      · rename_i hf; exact ⟨v, h, hf, fun {X cs vc} hr hv => ⟨0, _, rfl, hf, leaf_set hf (RP.length hr) hv⟩⟩
      · cases h
    | _ :: _ => simp [setK] at h
  | .unit, path, x, v, k, h => by
    match path with
    | [] =>
      simp only [setK] at h
      split at h
      · rename_i hf; exact ⟨v, h, hf, fun {X cs vc} hr hv => ⟨0, _, rfl, hf, leaf_set hf (RP.length hr) hv⟩⟩
      · cases h
    | _ :: _ => simp [setK] at h
  | .sl e, path, x, v, k, h => by
    match path with
    | [] =>
      simp only [setK] at h
      split at h
      · rename_i hf; exact ⟨v, h, hf, fun {X cs vc} hr hv => ⟨0, _, rfl, hf, leaf_set hf (RP.length hr) hv⟩⟩
      · cases h
    | _ :: _ => simp [setK] at h

theorem setV_leaf {out : A} {old v : AV} {K : Kind} {path : List Hop} {k : AV → Option A} (h : path = [] ∧ v.fits K = true ∧ k v = some out) :
    ∃ y, k y = some out ∧ (old.fits K = true → y.fits K = true) ∧ ∀ {X : Cx} {cs vc : List Value}, old.fits K = true → RA X old cs → RA X v vc → ∃ off K', koff K path = some (off, K') ∧ v.fits K' = true ∧ RA X y (splice cs off vc) := by
  obtain ⟨rfl, hf, h⟩ := h
  exact ⟨v, h, fun _ => hf, fun {X cs vc} hfo hr hv => ⟨0, K, koff_nil K, hf, leaf_set hf (RA.length hfo hr) hv⟩⟩

theorem setV_sound {out : A} : ∀ {old : AV} {K : Kind} {path : List Hop} {v : AV} {k : AV → Option A}, setV old K path v k = some out →
    ∃ y, k y = some out ∧ (old.fits K = true → y.fits K = true) ∧ ∀ {X : Cx} {cs vc : List Value}, old.fits K = true → RA X old cs → RA X v vc → ∃ off K', koff K path = some (off, K') ∧ v.fits K' = true ∧ RA X y (splice cs off vc)
  | .p K0 x, K, path, v, k, h => by
    obtain ⟨y, h1, hf, h2⟩ := setK_sound (by simpa [setV] using h)
    exact ⟨y, h1, fun hfo => by simp [AV.fits] at hfo; subst hfo; exact hf, fun {X cs vc} hfo hr hv => by simp [AV.fits] at hfo; subst hfo; exact h2 hr hv⟩
  | .pr a b, K, path, v, k, h => by
    match K, path with
    | K, [] => exact setV_leaf (path := []) (by cases K <;> simp [setV] at h <;> exact ⟨rfl, h.1, h.2⟩)
    | .pair x y', .fld 0 :: r =>
      obtain ⟨y, h1, hf, h2⟩ := setV_sound (old := a) (K := x) (path := r) (by simpa [setV] using h)
      refine ⟨_, h1, fun hfo => by simp [AV.fits] at hfo; exact mkPair_fits (hf hfo.1) hfo.2, fun {X cs vc} hfo hr hv => ?_⟩
      simp [AV.fits] at hfo
      obtain ⟨c1, c2, rfl, hr1, hr2⟩ := hr
      obtain ⟨off, K', ho, hfv, hy⟩ := h2 hfo.1 hr1 hv
      have hle := koff_le ho
      refine ⟨off, K', by simpa [koff] using ho, hfv, ?_⟩
      rw [splice_append_left (by rw [RA.length hfo.1 hr1, RA.length hfv hv]; exact hle)]
      exact mkPair_RA hy hr2
    | .pair x y', .fld (n + 1) :: r =>
      obtain ⟨y, h1, hf, h2⟩ := setV_sound (old := b) (K := y') (path := .fld n :: r) (by simpa [setV] using h)
      refine ⟨_, h1, fun hfo => by simp [AV.fits] at hfo; exact mkPair_fits hfo.1 (hf hfo.2), fun {X cs vc} hfo hr hv => ?_⟩
      simp [AV.fits] at hfo
      obtain ⟨c1, c2, rfl, hr1, hr2⟩ := hr
      obtain ⟨off, K', ho, hfv, hy⟩ := h2 hfo.2 hr2 hv
      refine ⟨x.size + off, K', by simp [koff, ho], hfv, ?_⟩
      rw [← RA.length hfo.1 hr1, splice_append_right]
      exact mkPair_RA hr1 hy
    | .pair _ _, .idx _ :: _ => simp [setV] at h
    | .int _, _ :: _ => simp [setV] at h
    | .bool, _ :: _ => simp [setV] at h
    | .str, _ :: _ => simp [setV] at h
    | .opq, _ :: _ => simp [setV] at h
    | .unit, _ :: _ => simp [setV] at h
    | .arr _ _, _ :: _ => simp [setV] at h
    | .sl _, _ :: _ => simp [setV] at h
  | .any, K, path, v, k, h => setV_leaf (by cases path <;> simp [setV] at h <;> exact ⟨rfl, h.1, h.2⟩)
  | .row _, K, path, v, k, h => setV_leaf (by cases path <;> simp [setV] at h <;> exact ⟨rfl, h.1, h.2⟩)
  | .sub _ _ _, K, path, v, k, h => setV_leaf (by cases path <;> simp [setV] at h <;> exact ⟨rfl, h.1, h.2⟩)
  | .ptr _ _, K, path, v, k, h => setV_leaf (by cases path <;> simp [setV] at h <;> exact ⟨rfl, h.1, h.2⟩)
  | .vp _ _, K, path, v, k, h => setV_leaf (by cases path <;> simp [setV] at h <;> exact ⟨rfl, h.1, h.2⟩)
  | .slc _ _ _ _, K, path, v, k, h => setV_leaf (by cases path <;> simp [setV] at h <;> exact ⟨rfl, h.1, h.2⟩)
  | .mp _, K, path, v, k, h => setV_leaf (by cases path <;> simp [setV] at h <;> exact ⟨rfl, h.1, h.2⟩)
  | .nilp, K, path, v, k, h => setV_leaf (by cases path <;> simp [setV] at h <;> exact ⟨rfl, h.1, h.2⟩)
  | .tup _, K, path, v, k, h => setV_leaf (by cases path <;> simp [setV] at h <;> exact ⟨rfl, h.1, h.2⟩)

end Go.Ev
