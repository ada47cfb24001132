/-
  CALLS: what a callee is told, what comes back.
-/
import Derived.Test.YtonpbpkkepacpaaFvR
import Derived.Calls
set_option linter.all false
namespace Go.Ev
variable {A : Type}

/-- Where nothing is ours. -/
def X0 (F : Nat → Prop) (w : World) : Cx := ⟨fun _ => none, [], F, w⟩

/-- A call of a function, whether it has code or is the model's own. -/
def Applies (P : Program) (f : FuncId) (vals : Array Value) (w : World) (K : Value → World → Prop) : Prop :=
  ∃ nx w1, (callFunc f vals).run P w = .ok nx w1 ∧ ((∃ u, nx = .value u ∧ K u w1) ∨ (nx = .enter f vals ∧ Calls P f vals w1 fun e w' => ∃ u, e = .returned u ∧ K u w'))

/-- What a function does, told of what it is handed. -/
def FnSem (P : Program) (gl : GL) (f : FuncId) (args : List AV) (hp0 : List Blk) (r : AV) (hp : List Blk) : Prop :=
  ∀ (X : Cx) (vals : Array Value), X.hp = hp0 → Ok X → GOK gl X → All2 (RS X) args vals.toList →
    Applies P f vals X.w fun u w' => ∃ Y : Cx, Y.w = w' ∧ Y.hp = hp ∧ RS Y r u ∧ Ok Y ∧ WEvo X Y ∧ PEvo hp0.length X Y

def FnOK (P : Program) (gl : GL) (f : FuncId) (en : Entry A) : Prop :=
  ∀ (args : List AV) (hp0 : List Blk) (k : AV → List Blk → Option A) (out : A), en.run args hp0 k = some out → ∃ r hp, k r hp = some out ∧ FnSem P gl f args hp0 r hp

def FnsOK (P : Program) (E : Env A) : Prop := ∀ f en, E.fns.lookup f = some en → FnOK P E.gl f en

-- ------------------------------------------------------------ blocks assigned

theorem asg_out : ∀ (L : List (Nat × Blk)) (hp : List Blk) (j : Nat) (c : Blk), (∀ q ∈ L, q.1 ≠ j) → hp[j]? = some c → (asg hp L)[j]? = some c
  | [], _, _, _, _, h => h
  | q :: L, hp, j, c, hn, h => asg_out L _ j c (fun q hq => hn q (by simp [hq])) (hpSet_old _ _ _ (Ne.symm (hn q (by simp))) h)

theorem asg_in : ∀ (L : List (Nat × Blk)) (hp : List Blk) (j : Nat) (b : Blk), (∀ q ∈ L, q.1 = j → q.2 = b) → (∃ q ∈ L, q.1 = j) → (asg hp L)[j]? = some b
  | [], _, _, _, _, h => by obtain ⟨q, hq, _⟩ := h; cases hq
  | q :: L, hp, j, b, hu, h => by
    by_cases hL : ∃ q ∈ L, q.1 = j
    · exact asg_in L _ j b (fun q hq => hu q (by simp [hq])) hL
    · obtain ⟨p, hp', hpj⟩ := h
      rcases List.mem_cons.1 hp' with rfl | hp'
      · have e := hu p (by simp) hpj
        subst hpj
        exact asg_out L _ p.1 b (fun q hq hj => hL ⟨q, hq, hj⟩) (by rw [e]; exact hpSet_same ..)
      · exact absurd ⟨p, hp', hpj⟩ hL

theorem asg_cases : ∀ (L : List (Nat × Blk)) (hp : List Blk) (j : Nat) (c : Blk), (asg hp L)[j]? = some c → (∃ q ∈ L, q.1 = j ∧ q.2 = c) ∨ ((∀ q ∈ L, q.1 ≠ j) ∧ (hp[j]? = some c ∨ c = .free))
  | [], _, _, _, h => .inr ⟨by simp, .inl h⟩
  | q :: L, hp, j, c, h => by
    rcases asg_cases L _ j c h with ⟨p, hp', h1, h2⟩ | ⟨h1, h2⟩
    · exact .inl ⟨p, by simp [hp'], h1, h2⟩
    · by_cases hq : q.1 = j
      · subst hq
        rw [hpSet_same] at h2
        rcases h2 with h2 | rfl
        · cases h2; exact .inl ⟨q, by simp, rfl, rfl⟩
        · by_cases h3 : q.2 = .free
          · exact .inl ⟨q, by simp, rfl, h3⟩
          · -- the block there is q.2, and nothing else
            have := asg_out L (hpSet hp q.1 q.2) q.1 q.2 (fun p hp' => h1 p hp') (hpSet_same ..)
            have h' : (asg (hpSet hp q.1 q.2) L)[q.1]? = some .free := h
            rw [this] at h'; exact absurd (Option.some.inj h') h3
      · refine .inr ⟨fun p hp' => by rcases List.mem_cons.1 hp' with rfl | hp'; exact hq; exact h1 p hp', ?_⟩
        rcases h2 with h2 | h2
        · rcases hpSet_cases h2 with ⟨h3, _⟩ | ⟨_, h3⟩ | ⟨_, h3⟩
          · exact absurd h3.symm hq
          · exact .inl h3
          · exact .inr h3
        · exact .inr h2

-- ------------------------------------------------------------ what is handed over, as data

/-- The blocks that some numbers of ours stand for. -/
def Cx.Held (X : Cx) (ids : List Nat) (b : Nat) : Prop := ∃ id ∈ ids, ∃ blk, X.hp[id]? = some blk ∧ blk.live = true ∧ X.ρ id = some b

theorem BlkEvo.ren {b : Blk} {f : Nat → Option Nat} : (b.ren f).live = b.live := by cases b <;> rfl

theorem BlkEvo.unren {b b' : Blk} {f g : Nat → Option Nat} (h : BlkEvo (b.ren f) b') : BlkEvo b (b'.ren g) := by
  cases b with
  | var t K v => cases h with | gone => exact .gone _ | var => exact .var ..
  | row e K xs => cases h with | gone => exact .gone _ | row _ _ _ xs' hl => exact .row _ _ _ _ hl
  | map KK KV es => cases h with | gone => exact .gone _ | map => exact .map ..
  | gone => cases h; exact .gone _
  | free => cases h; exact .gone _

theorem ren_free {b : Blk} {f : Nat → Option Nat} (h : b ≠ .free) : b.ren f ≠ .free := by cases b <;> simp_all [Blk.ren]

theorem disjointB_spec' {a b : List Nat} (h : disjointB a b = true) : ∀ x ∈ a, x ∉ b := fun x hx hb => by
  unfold disjointB at h
  rw [List.all_eq_true] at h
  have := h x hx
  simp [hb] at this

theorem closure_nodup (bid : Nat → List Nat) : ∀ (f : Nat) (l acc : List Nat), acc.Nodup → (closure bid f l acc).Nodup
  | 0, _, _, h => h
  | _ + 1, [], _, h => h
  | f + 1, id :: r, acc, h => by
    simp only [closure]
    split
    · exact closure_nodup bid f r acc h
    · rename_i hc
      refine closure_nodup bid f _ _ ?_
      rw [List.nodup_append]
      refine ⟨h, by simp, fun a ha b hb hab => ?_⟩
      simp at hb; subst hb; subst hab
      simp at hc; exact hc ha

theorem pos_get {l : List Nat} {id i : Nat} (h : pos l id = some i) : l[i]? = some id := by
  unfold pos at h
  split at h
  · rename_i j hj
    cases h
    rw [List.findIdx?_eq_some_iff_getElem] at hj
    obtain ⟨h1, h2, _⟩ := hj
    rw [List.getElem?_eq_getElem h1]
    simp at h2; rw [h2]
  · cases h

/-- The blocks of some numbers, numbered anew; 'G': what is told as data from now on. -/
theorem renumber {X : Cx} {hp : List Blk} (hX : X.hp = hp) (ok : Ok X) {l : List Nat} (hl : l.Nodup) {G : List Nat} (hG : ∀ x ∈ G, x ∉ l) :
    ∃ Z : Cx, Z.w = X.w ∧ Z.hp = (l.map fun id => (hp.getD id .gone).ren (pos l)) ∧ Z.F = (fun b => X.F b ∨ X.Held G b) ∧ Ok Z ∧ WEvo X Z ∧ Emb X Z (pos l) true := by
  subst hX
  have EM : Emb X ⟨fun i => (l[i]?).bind X.ρ, l.map fun id => (X.hp.getD id .gone).ren (pos l), fun b => X.F b ∨ X.Held G b, X.w⟩ (pos l) true := by
    refine ⟨fun id i b hf hb => ?_, fun id i b hf hb => ?_, rfl, fun _ b hb => .inl hb⟩
    · have := pos_get hf
      simp only [List.getElem?_map, this, Option.map_some, List.getD_eq_getElem?_getD, hb, Option.getD_some]
    · have := pos_get hf
      simp only [this, Option.bind_some]
  have at_ : ∀ (i : Nat) (b : Blk), (l.map fun id => (X.hp.getD id .gone).ren (pos l))[i]? = some b → ∃ id, l[i]? = some id ∧ b = (X.hp.getD id .gone).ren (pos l) := fun i b hb => by
    rw [List.getElem?_map, Option.map_eq_some_iff] at hb
    obtain ⟨id, h1, h2⟩ := hb
    exact ⟨id, h1, h2.symm⟩
  have posOf : ∀ i id, l[i]? = some id → pos l id = some i := fun i id hi => by
    unfold pos
    have : l.findIdx? (· == id) = some i := by
      rw [List.findIdx?_eq_some_iff_getElem]
      obtain ⟨h1, h2⟩ := List.getElem?_eq_some_iff.1 hi
      refine ⟨h1, by simp [h2], fun j hj => ?_⟩
      simp only [beq_iff_eq, Bool.not_eq_true]
      have hne : l[j]'(by omega) ≠ id := fun e => by
        rw [← h2] at e
        exact (List.pairwise_iff_getElem.1 hl) j i (by omega) h1 hj e
      simpa using hne
    rw [this]
  have live : ∀ (i : Nat) (b : Blk), (l.map fun id => (X.hp.getD id .gone).ren (pos l))[i]? = some b → b.live = true → ∃ (id : Nat) (c : Blk), l[i]? = some id ∧ X.hp[id]? = some c ∧ c.live = true ∧ b = c.ren (pos l) := fun i b hb hlv => by
    obtain ⟨id, h1, rfl⟩ := at_ i b hb
    rw [BlkEvo.ren] at hlv
    cases hc : X.hp[id]? with
    | none => rw [List.getD_eq_getElem?_getD, hc] at hlv; cases hlv
    | some c => rw [List.getD_eq_getElem?_getD, hc] at hlv ⊢; exact ⟨id, c, h1, hc, hlv, rfl⟩
  have own : ∀ b, Cx.Own ⟨fun i => (l[i]?).bind X.ρ, l.map fun id => (X.hp.getD id .gone).ren (pos l), fun b => X.F b ∨ X.Held G b, X.w⟩ b → ∃ (i id : Nat) (c : Blk), l[i]? = some id ∧ X.hp[id]? = some c ∧ c.live = true ∧ X.ρ id = some b := fun b ⟨i, blk, h1, h2, h3⟩ => by
    obtain ⟨id, c, g1, g2, g3, _⟩ := live i blk h1 h2
    simp only [g1, Option.bind_some] at h3
    exact ⟨i, id, c, g1, g2, g3, h3⟩
  refine ⟨⟨fun i => (l[i]?).bind X.ρ, l.map fun id => (X.hp.getD id .gone).ren (pos l), fun b => X.F b ∨ X.Held G b, X.w⟩, rfl, rfl, rfl, ⟨fun i b hb => ?_, fun i i' b c c' h1 h2 h3 h4 h5 h6 => ?_, fun b hb => ?_⟩, ⟨rfl, rfl, rfl, Nat.le_refl _, fun _ c _ _ h => ⟨c, h, rfl⟩, fun _ _ _ => rfl, fun b _ ho => ?_, fun b hb => .inl hb, fun b hb => ?_⟩, EM⟩
  · by_cases hlv : b.live = true
    · obtain ⟨id, c, g1, g2, g3, rfl⟩ := live i b hb hlv
      exact RB.emb EM (posOf i id g1) g2 (fun _ => rfl) (ok.blk id c g2)
    · cases b <;> first | trivial | (simp [Blk.live] at hlv)
  · obtain ⟨id, d, g1, g2, g3, _⟩ := live i c h1 h2
    obtain ⟨id', d', k1, k2, k3, _⟩ := live i' c' h3 h4
    simp only [g1, k1, Option.bind_some] at h5 h6
    have e := ok.inj id id' b d d' g2 g3 k2 k3 h5 h6
    subst e
    have := posOf i id g1
    rw [posOf i' id k1] at this
    exact (Option.some.inj this).symm
  · rcases hb with hb | ⟨g, hg, blk, h1, h2, h3⟩
    · refine ⟨(ok.fo b hb).1, fun ho => ?_⟩
      obtain ⟨i, id, c, g1, g2, g3, g4⟩ := own b ho
      exact (ok.fo b hb).2 ⟨id, c, g2, g3, g4⟩
    · refine ⟨ok.lt ⟨g, blk, h1, h2, h3⟩, fun ho => ?_⟩
      obtain ⟨i, id, c, g1, g2, g3, g4⟩ := own b ho
      have e := ok.inj g id b blk c h1 h2 g2 g3 h3 g4
      subst e
      exact hG g hg (List.mem_of_getElem? g1)
  · obtain ⟨i, id, c, g1, g2, g3, g4⟩ := own b ho
    exact ⟨id, c, g2, g3, g4⟩
  · rcases hb with hb | ⟨g, hg, blk, h1, h2, h3⟩
    · exact .inl hb
    · exact .inr (.inl ⟨g, blk, h1, h2, h3⟩)

theorem pos_of {l : List Nat} (hl : l.Nodup) {i id : Nat} (hi : l[i]? = some id) : pos l id = some i := by
  unfold pos
  have : l.findIdx? (· == id) = some i := by
    rw [List.findIdx?_eq_some_iff_getElem]
    obtain ⟨h1, h2⟩ := List.getElem?_eq_some_iff.1 hi
    refine ⟨h1, by simp [h2], fun j hj => ?_⟩
    simp only [beq_iff_eq, Bool.not_eq_true]
    have hne : l[j]'(by omega) ≠ id := fun e => by
      rw [← h2] at e
      exact (List.pairwise_iff_getElem.1 hl) j i (by omega) h1 hj e
    simpa using hne
  rw [this]

theorem pureK_leaf {out : A} {sub : List (Nat × Blk)} {v : AV} {k : AV → Option A} (h : (listK sub v fun K xs => k (.p (.sl K) xs)) = some out) (hid : ∃ id, v.ids = [id]) (h1 : ∀ K x, v ≠ .p K x) (h2 : ∀ a b, v ≠ .pr a b) (hagg : v.agg = false) :
      ∃ K x, k (.p K x) = some out ∧ (∀ id ∈ v.ids, ∃ c, sub.lookup id = some c ∧ c.live = true) ∧ ∀ {X : Cx} {F : Nat → Prop} {cs : List Value}, Ok X → (∀ (id : Nat) (b : Blk), sub.lookup id = some b → X.hp[id]? = some b) →
      (∀ b, X.F b → F b) → (∀ b, X.Held v.ids b → F b) → RA X v cs → RP F X.w K x cs ∧ v.agg = K.isAgg := by
    obtain ⟨K, ys, h', hl⟩ := listK_sound h
    refine ⟨.sl K, ys, h', ?_, fun {X F cs} ok hs hF hH hr => ⟨?_, by rw [hagg]; rfl⟩⟩
    · obtain ⟨id, hid⟩ := hid
      intro j hj
      rw [hid] at hj; simp at hj; subst hj
      cases v with
      | row i => simp [AV.ids] at hid; subst hid; obtain ⟨b, hb, h⟩ := look_sound h; refine ⟨b, hb, ?_⟩; cases b <;> first | rfl | (cases h)
      | sub i _ _ => simp [AV.ids] at hid; subst hid; obtain ⟨b, hb, h⟩ := look_sound h; refine ⟨b, hb, ?_⟩; cases b <;> first | rfl | (cases h)
      | slc i _ _ _ => simp [AV.ids] at hid; subst hid; obtain ⟨b, hb, h⟩ := look_sound h; refine ⟨b, hb, ?_⟩; cases b <;> first | rfl | (cases h)
      | pr a b => exact absurd rfl (h2 a b)
      | p K x => exact absurd rfl (h1 K x)
      | ptr _ _ => simp [listK] at h
      | mp _ => simp [listK] at h
      | _ => simp [AV.ids] at hid
    · obtain ⟨u, rfl, h3⟩ := (RA.single h1 h2).1 hr
      have hany : v ≠ .any := fun e => by rw [e] at hid; obtain ⟨_, h⟩ := hid; simp [AV.ids] at h
      have htup : ∀ vs, v ≠ .tup vs := fun vs e => by rw [e] at hid; obtain ⟨_, h⟩ := hid; simp [AV.ids] at h
      obtain ⟨ao, c, rfl, h4, h5⟩ := (hl X u ok hs ((RS.one h1 h2 hany htup).2 h3)).get
      refine ⟨ao, c, rfl, h4, fun hp => ?_⟩
      obtain ⟨ad, css, rfl, h6, h7, h8⟩ := h5 hp
      refine ⟨ad, css, rfl, ?_, h7.imp fun _ _ _ _ hr => RP.mono hF (fun _ _ => rfl) hr, h8⟩
      rcases h6 with h6 | ⟨id, hid, hρ, b, hb, hl⟩
      · exact hF _ h6
      · exact hH _ ⟨id, hid, b, hb, hl, hρ⟩

theorem pureK_sound {out : A} {sub : List (Nat × Blk)} : ∀ {v : AV} {k : AV → Option A}, pureK sub v k = some out →
    ∃ K x, k (.p K x) = some out ∧ (∀ id ∈ v.ids, ∃ c, sub.lookup id = some c ∧ c.live = true) ∧ ∀ {X : Cx} {F : Nat → Prop} {cs : List Value}, Ok X → (∀ (id : Nat) (b : Blk), sub.lookup id = some b → X.hp[id]? = some b) →
      (∀ b, X.F b → F b) → (∀ b, X.Held v.ids b → F b) → RA X v cs → RP F X.w K x cs ∧ v.agg = K.isAgg
  | .p K x, k, h => ⟨K, x, h, by simp [AV.ids], fun {X F cs} ok hs hF hH hr => ⟨RP.mono hF (fun _ _ => rfl) hr, rfl⟩⟩
  | .pr a b, k, h => by
    simp only [pureK] at h
    obtain ⟨K, x, h, s1, r1⟩ := pureK_sound h
    obtain ⟨K', x', h, s2, r2⟩ := pureK_sound h
    refine ⟨_, _, h, fun id hid => ?_, fun {X F cs} ok hs hF hH hr => ?_⟩
    · simp only [AV.ids, List.mem_append] at hid
      exact hid.elim (s1 id) (s2 id)
    · obtain ⟨c1, c2, rfl, h1, h2⟩ := hr
      obtain ⟨g1, _⟩ := r1 ok hs hF (fun b hb => hH b (by obtain ⟨id, h, r⟩ := hb; exact ⟨id, by simp [AV.ids, h], r⟩)) h1
      obtain ⟨g2, _⟩ := r2 ok hs hF (fun b hb => hH b (by obtain ⟨id, h, r⟩ := hb; exact ⟨id, by simp [AV.ids, h], r⟩)) h2
      exact ⟨⟨c1, c2, rfl, g1, g2⟩, rfl⟩
  | .row id, k, h => pureK_leaf (v := .row id) (by simpa [pureK] using h) ⟨id, by simp [AV.ids]⟩ (by simp) (by simp) rfl
  | .sub id a b, k, h => pureK_leaf (v := .sub id a b) (by simpa [pureK] using h) ⟨id, by simp [AV.ids]⟩ (by simp) (by simp) rfl
  | .slc id q a b, k, h => pureK_leaf (v := .slc id q a b) (by simpa [pureK] using h) ⟨id, by simp [AV.ids]⟩ (by simp) (by simp) rfl
  | .any, k, h => by simp [pureK] at h
  | .ptr _ _, k, h => by simp [pureK] at h
  | .vp _ _, k, h => by simp [pureK] at h
  | .mp _, k, h => by simp [pureK] at h
  | .nilp, k, h => by simp [pureK] at h
  | .tup _, k, h => by simp [pureK] at h
theorem own_noTup {v : AV} (h : v.isTup = false) : ∀ ws, v ≠ .tup ws := fun ws e => by subst e; cases h

/-- What one argument that is data comes to. -/
theorem pureK_RS {out : A} {sub : List (Nat × Blk)} {v : AV} {k : AV → Option A} (h : pureK sub v k = some out) :
    ∃ K x, k (.p K x) = some out ∧ (∀ id ∈ v.ids, ∃ c, sub.lookup id = some c ∧ c.live = true) ∧ ∀ {X Z : Cx} {u : Value}, Ok X → (∀ (id : Nat) (b : Blk), sub.lookup id = some b → X.hp[id]? = some b) →
      Z.w = X.w → (∀ b, X.F b → Z.F b) → (∀ b, X.Held v.ids b → Z.F b) → RS X v u → RS Z (.p K x) u := by
  have h0 := h
  obtain ⟨K, x, h, s1, r1⟩ := pureK_sound h
  refine ⟨K, x, h, s1, fun {X Z u} ok hs hw hF hH hu => ?_⟩
  have htup : ∀ ws, v ≠ .tup ws := fun ws e => by subst e; simp [pureK] at h0
  have hany : v.isAny = false := by cases v <;> first | rfl | (simp [pureK] at h0)
  rcases hu.to0 htup with h3 | ⟨cs, h3, h4⟩
  · rw [hany] at h3; cases h3
  · obtain ⟨g1, g2⟩ := r1 ok hs hF hH h3
    rw [← hw] at g1
    refine RS.of0 (.inr ⟨cs, g1, ?_⟩) (by simp)
    rw [g2] at h4; exact h4

theorem passK_sound {out : A} {sub : List (Nat × Blk)} : ∀ {os : List Bool} {vs : List AV} {k : List AV → Option A}, passK sub os vs k = some out →
    ∃ vs', k vs' = some out ∧ (∀ id ∈ pureIds os vs, ∃ c, sub.lookup id = some c ∧ c.live = true) ∧ (∀ id ∈ vs'.flatMap AV.ids, ∃ v ∈ vs, id ∈ v.ids) ∧ ∀ {X Z : Cx} {f : Nat → Option Nat} {us : List Value}, Ok X → (∀ (id : Nat) (b : Blk), sub.lookup id = some b → X.hp[id]? = some b) →
      Z.w = X.w → (∀ b, X.F b → Z.F b) → (∀ b, X.Held (pureIds os vs) b → Z.F b) → Emb X Z f true → All2 (RS X) vs us → All2 (RS Z) (vs'.map fun v => v.ren f) us
  | os, [], k, h => ⟨[], by cases os with | nil => exact h | cons b _ => cases b <;> exact h, by cases os with | nil => simp [pureIds] | cons b _ => cases b <;> simp [pureIds], by simp, fun _ _ _ _ _ _ h => by cases h; exact .nil⟩
  | true :: os, v :: vs, k, h => by
    simp only [passK] at h
    obtain ⟨vs', h, s2, s3, r2⟩ := passK_sound h
    refine ⟨_, h, by simpa [pureIds] using s2, fun id hid => ?_, fun {X Z f us} ok hs hw hF hH EM hr => ?_⟩
    · rw [List.flatMap_cons, List.mem_append] at hid
      rcases hid with hid | hid
      · exact ⟨v, by simp, hid⟩
      · obtain ⟨w, hw, h⟩ := s3 id hid; exact ⟨w, by simp [hw], h⟩
    · cases hr with
      | @cons _ u _ us hu hr => exact .cons (RS.emb EM (fun _ => rfl) hu) (r2 ok hs hw hF (by simpa [pureIds] using hH) EM hr)
  | false :: os, v :: vs, k, h => by
    simp only [passK] at h
    obtain ⟨K, x, h, s1, r1⟩ := pureK_RS h
    obtain ⟨vs', h, s2, s3, r2⟩ := passK_sound h
    refine ⟨_, h, fun id hid => ?_, fun id hid => ?_, fun {X Z f us} ok hs hw hF hH EM hr => ?_⟩
    · simp only [pureIds, List.mem_append] at hid; exact hid.elim (s1 id) (s2 id)
    · rw [List.flatMap_cons, List.mem_append] at hid
      rcases hid with hid | hid
      · simp [AV.ids] at hid
      · obtain ⟨w, hw, h⟩ := s3 id hid; exact ⟨w, by simp [hw], h⟩
    · cases hr with
      | @cons _ u _ us hu hr =>
        exact .cons (r1 ok hs hw hF (fun b hb => hH b (by obtain ⟨id, h, r⟩ := hb; exact ⟨id, by simp only [pureIds, List.mem_append]; exact .inl h, r⟩)) hu)
          (r2 ok hs hw hF (fun b hb => hH b (by obtain ⟨id, h, r⟩ := hb; exact ⟨id, by simp only [pureIds, List.mem_append]; exact .inr h, r⟩)) EM hr)
  | [], v :: vs, k, h => by
    simp only [passK] at h
    obtain ⟨K, x, h, s1, r1⟩ := pureK_RS h
    obtain ⟨vs', h, s2, s3, r2⟩ := passK_sound h
    refine ⟨_, h, fun id hid => ?_, fun id hid => ?_, fun {X Z f us} ok hs hw hF hH EM hr => ?_⟩
    · simp only [pureIds, List.mem_append] at hid; exact hid.elim (s1 id) (s2 id)
    · rw [List.flatMap_cons, List.mem_append] at hid
      rcases hid with hid | hid
      · simp [AV.ids] at hid
      · obtain ⟨w, hw, h⟩ := s3 id hid; exact ⟨w, by simp [hw], h⟩
    · cases hr with
      | @cons _ u _ us hu hr =>
        exact .cons (r1 ok hs hw hF (fun b hb => hH b (by obtain ⟨id, h, r⟩ := hb; exact ⟨id, by simp only [pureIds, List.mem_append]; exact .inl h, r⟩)) hu)
          (r2 ok hs hw hF (fun b hb => hH b (by obtain ⟨id, h, r⟩ := hb; exact ⟨id, by simp only [pureIds, List.mem_append]; exact .inr h, r⟩)) EM hr)

theorem argsV_sound {P : Program} {E : Env A} {ev : Operand → AV} {out : A} : ∀ {l : List (TypeId × Operand)} {k : List AV → Option A}, argsV E ev l k = some out →
    ∃ vs, k vs = some out ∧ (∀ v ∈ vs, ∀ id ∈ v.ids, ∃ q ∈ l, v = ev q.2) ∧ ∀ (X : Cx) (a : Act), (∀ q ∈ l, RS X (ev q.2) (a.eval q.2)) → All2 (RS X) vs (l.map fun q => a.eval q.2)
  | [], k, h => ⟨[], h, by simp, fun _ _ _ => .nil⟩
  | (t, x) :: r, k, h => by
    simp only [argsV, argV] at h
    split at h
    · obtain ⟨i, _, h⟩ := ti_sound h
      split at h
      · rename_i K _
        obtain ⟨vs, h, h1, h2⟩ := argsV_sound (P := P) h
        refine ⟨_, h, fun v hv id hid => ?_, fun X a hr => .cons ?_ (h2 X a fun q hq => hr q (by simp [hq]))⟩
        · rcases List.mem_cons.1 hv with rfl | hv
          · simp [AV.ids] at hid
          · obtain ⟨q, hq, e⟩ := h1 v hv id hid; exact ⟨q, by simp [hq], e⟩
        · exact RS.of0 (.inr ⟨[.slice none 0 0], ⟨none, 0, rfl, Nat.le_refl _, fun h => absurd h (by simp)⟩, .inr ⟨rfl, rfl⟩⟩) (by simp)
      · cases h
    · obtain ⟨vs, h, h1, h2⟩ := argsV_sound (P := P) h
      refine ⟨_, h, fun v hv id hid => ?_, fun X a hr => .cons (hr (t, x) (by simp)) (h2 X a fun q hq => hr q (by simp [hq]))⟩
      rcases List.mem_cons.1 hv with rfl | hv
      · exact ⟨(t, x), by simp, rfl⟩
      · obtain ⟨q, hq, e⟩ := h1 v hv id hid; exact ⟨q, by simp [hq], e⟩


section
variable {P : Program} {E : Env A} {o : Oper} {ev : Operand → AV} {sub : List (Nat × Blk)} {fresh : Nat} {k : Cont A} {out : A}

set_option maxHeartbeats 2000000 in
theorem call_sound (fns : FnsOK P E) (hev : ∀ g, ev (.global g) = glv E.gl g) {f : FuncId} {c : Call} (ho : o.op = .call c) (hc : c.callee = .value (.func f)) (hsz : c.argTypes.size = c.args.size)
    (h : (argsV E ev (c.argTypes.toList.zip c.args.toList) fun args => callK E f args sub fresh k) = some out) : ∃ v l, k v l = some out ∧ OpSem P o ev sub fresh v l := by
  have marg : ∀ x ∈ c.args, x ∈ o.op.operands := fun x hx => by simp [Op.operands, ho, Call.operands, hc, hx]
  have hzip : (c.argTypes.toList.zip c.args.toList).map (·.2) = c.args.toList := by
    rw [List.map_snd_zip]; simp [hsz]
  obtain ⟨args, h, _, hargs⟩ := argsV_sound (P := P) h
  unfold callK at h
  split at h
  · cases h
  · rename_i en hen
    obtain ⟨vs, h, hsub, _, hpass⟩ := passK_sound h
    have hnd : (closure (subIds sub) 1000 (vs.flatMap AV.ids) []).Nodup := closure_nodup _ _ _ _ (by simp)
    simp only at h
    generalize hl0 : closure (subIds sub) 1000 (vs.flatMap AV.ids) [] = l at h hnd
    generalize hpid : pureIds en.own args = pid at h hsub hpass
    cases hchk : disjointB pid l && l.all (fun id => ((sub.lookup id).getD .free).there) with
    | false => rw [hchk] at h; cases h
    | true =>
    rw [hchk] at h
    simp only [cond_true] at h
    rw [Bool.and_eq_true] at hchk
    have hdis : ∀ x ∈ pid, x ∉ l := disjointB_spec' hchk.1
    have hlk : ∀ id ∈ l, ∃ c, sub.lookup id = some c ∧ c ≠ .free := fun id hid => by
      have := (List.all_eq_true.1 hchk.2) id hid
      cases hq : sub.lookup id with
      | none => rw [hq] at this; cases this
      | some c => refine ⟨c, rfl, fun e => ?_⟩; rw [hq, e] at this; cases this
    obtain ⟨r, hp, h, hsem⟩ := fns f en hen _ _ _ out h
    -- the callee's numbers are ours
    have gl : ∀ i id, l[i]? = some id → backN l fresh i = id := fun i id hi => by unfold backN; rw [hi]
    have gn : ∀ i, l.length ≤ i → backN l fresh i = fresh + (i - l.length) := fun i hi => by unfold backN; rw [List.getElem?_eq_none hi]
    refine ⟨_, _, h, ?_, ?_⟩
    · intro q hq
      rcases List.mem_append.1 hq with hq | hq
      · right
        cases hsl : (r.hasSl || hp.any Blk.hasSl) with
        | false => rw [hsl] at hq; simp at hq
        | true =>
          rw [hsl] at hq
          simp only [cond_true, List.mem_map] at hq
          obtain ⟨id, hid, rfl⟩ := hq
          obtain ⟨c, hc, _⟩ := hsub id hid; exact ⟨c, hc⟩
      · simp only [List.mem_map] at hq
        obtain ⟨p, _, rfl⟩ := hq
        rcases Nat.lt_or_ge p.2 l.length with hlt | hge
        · right
          obtain ⟨c, hc, _⟩ := hlk l[p.2] (List.getElem_mem hlt)
          exact ⟨c, by rw [gl p.2 _ (List.getElem?_eq_getElem hlt)]; exact hc⟩
        · left; rw [gn _ hge]; exact Nat.le_add_right _ _
    · intro X a Kc Q at_ hun hk
      -- what the callee is told
      obtain ⟨C, cw, chp, cF, okC, WC, EC⟩ := renumber (X := X) rfl at_.ok hnd hdis
      have hr0 : All2 (RS X) args (c.args.map a.eval).toList := by
        have := hargs X a fun q hq => at_.opr _ (marg _ (by have := (List.of_mem_zip (a := q.1) (b := q.2) hq).2; simpa using this))
        rw [Array.toList_map, ← hzip, List.map_map]; exact this
      have hr1 : All2 (RS C) (vs.map fun v => v.ren (pos l)) (c.args.map a.eval).toList :=
        hpass at_.ok at_.sub cw (fun b hb => by rw [cF]; exact .inl hb) (fun b hb => by rw [cF]; exact .inr hb) EC hr0
      have hp0 : C.hp = l.map fun id => ((sub.lookup id).getD .gone).ren (pos l) := by
        rw [chp]
        refine List.map_congr_left fun id hid => ?_
        obtain ⟨c, hc, _⟩ := hlk id hid
        rw [List.getD_eq_getElem?_getD, at_.sub id c hc, hc]
      have hglo : GOK E.gl C := GOK.evo WC at_.ok.fo fun g => by rw [← hev g]; exact at_.glo g
      have hap := hsem C (c.args.map a.eval) hp0 okC hglo hr1
      rw [cw, List.length_map] at hap
      have lX : ∀ i id, l[i]? = some id → ∃ c, X.hp[id]? = some c ∧ c ≠ .free ∧ C.hp[i]? = some (c.ren (pos l)) ∧ C.ρ i = X.ρ id := fun i id hi => by
        obtain ⟨c, hc, hn⟩ := hlk id (List.mem_of_getElem? hi)
        have hx := at_.sub id c hc
        have hpo := pos_of hnd hi
        exact ⟨c, hx, hn, EC.hp id i c hpo hx, EC.ρ id i c hpo hx⟩
      have cown : ∀ b, C.Own b → ∃ id ∈ l, ∃ blk, X.hp[id]? = some blk ∧ blk.live = true ∧ X.ρ id = some b := fun b ⟨i, blk, h1, h2, h3⟩ => by
        have hi : i < l.length := by
          have := (List.getElem?_eq_some_iff.1 h1).1
          rw [chp, List.length_map] at this; exact this
        obtain ⟨c, g1, g2, g3, g4⟩ := lX i _ (List.getElem?_eq_getElem hi)
        rw [g3] at h1; cases h1
        rw [g4] at h3
        exact ⟨_, List.getElem_mem hi, c, g1, by rw [BlkEvo.ren] at h2; exact h2, h3⟩
      -- what is behind it
      have fin : ∀ (u : Value) (w' : World), (∃ Y : Cx, Y.w = w' ∧ Y.hp = hp ∧ RS Y r u ∧ Ok Y ∧ WEvo C Y ∧ PEvo l.length C Y) → Kc (a.put o.dst u) w' := by
        rintro u w' ⟨Y, rfl, rfl, hru, okY, W, V⟩
        generalize hsl : (r.hasSl || Y.hp.any Blk.hasSl) = sl at h hun hk
        let L : List (Nat × Blk) := (bif sl then pid.map fun id => (id, Blk.gone) else []) ++ Y.hp.zipIdx.map fun q => (backN l fresh q.2, q.1.ren fun i => some (backN l fresh i))
        let Z : Cx := ⟨fun id => if fresh ≤ id ∧ id < fresh + (Y.hp.length - l.length) then Y.ρ (l.length + (id - fresh)) else X.ρ id, asg X.hp L, fun b => if sl = true then Y.F b else X.F b, Y.w⟩
        -- what was handed over
        have given : ∀ i id, l[i]? = some id → ∃ c b', X.hp[id]? = some c ∧ c ≠ .free ∧ Y.hp[i]? = some b' ∧ BlkEvo (c.ren (pos l)) b' ∧ Y.ρ i = X.ρ id := fun i id hi => by
          obtain ⟨c, g1, g2, g3, g4⟩ := lX i id hi
          have hlt := (List.getElem?_eq_some_iff.1 hi).1
          obtain ⟨b', h1, h2⟩ := V.hp i _ hlt g3 (ren_free g2)
          exact ⟨c, b', g1, g2, h1, h2, by rw [V.ρ i _ hlt g3 (ren_free g2), g4]⟩
        -- the new numbers
        have newUn : ∀ i, l.length ≤ i → i < Y.hp.length → X.unused (backN l fresh i) := fun i hge hi => by
          refine hun (backN l fresh i, (Y.hp[i]).ren fun i => some (backN l fresh i)) (List.mem_append.2 (.inr ?_)) (by rw [gn i hge]; exact Nat.le_add_right _ _)
          simp only [List.mem_map]
          exact ⟨(Y.hp[i], i), by rw [List.mem_zipIdx_iff_getElem?]; simp [hi], rfl⟩
        have goneIn : ∀ q ∈ L, (sl = true ∧ q.1 ∈ pid ∧ q.2 = .gone) ∨ ∃ i b, Y.hp[i]? = some b ∧ q = (backN l fresh i, b.ren fun i => some (backN l fresh i)) := fun q hq => by
          rcases List.mem_append.1 hq with hq | hq
          · cases hs : sl with
            | false => rw [hs] at hq; simp at hq
            | true =>
              rw [hs] at hq
              simp only [cond_true, List.mem_map] at hq
              obtain ⟨id, hid, rfl⟩ := hq
              exact .inl ⟨rfl, hid, rfl⟩
          · simp only [List.mem_map] at hq
            obtain ⟨p, hp, rfl⟩ := hq
            rw [List.mem_zipIdx_iff_getElem?] at hp
            exact .inr ⟨p.2, p.1, hp, rfl⟩
        have idsX : ∀ id ∈ pid, ∃ c, X.hp[id]? = some c ∧ c.live = true := fun id hid => by
          obtain ⟨c, hc, hl⟩ := hsub id hid
          exact ⟨c, at_.sub _ _ hc, hl⟩
        have notPid : ∀ i, i < Y.hp.length → backN l fresh i ∉ pid := fun i hi hid => by
          rcases Nat.lt_or_ge i l.length with hlt | hge
          · rw [gl i _ (List.getElem?_eq_getElem hlt)] at hid
            exact hdis _ hid (List.getElem_mem hlt)
          · obtain ⟨c, hc, hl⟩ := idsX _ hid
            exact (newUn i hge hi).ne hc (live_not_free hl) rfl
        have ginj : ∀ i j, i < Y.hp.length → j < Y.hp.length → backN l fresh i = backN l fresh j → i = j := fun i j hi hj e => by
          rcases Nat.lt_or_ge i l.length with h1 | h1 <;> rcases Nat.lt_or_ge j l.length with h2 | h2
          · rw [gl i _ (List.getElem?_eq_getElem h1), gl j _ (List.getElem?_eq_getElem h2)] at e
            have k1 := pos_of hnd (List.getElem?_eq_getElem h1)
            have k2 := pos_of hnd (List.getElem?_eq_getElem h2)
            rw [e, k2] at k1
            exact (Option.some.inj k1).symm
          · obtain ⟨c, _, g1, g2, _⟩ := given i _ (List.getElem?_eq_getElem h1)
            rw [gl i _ (List.getElem?_eq_getElem h1)] at e
            exact absurd e ((newUn j h2 hj).ne g1 g2)
          · obtain ⟨c, _, g1, g2, _⟩ := given j _ (List.getElem?_eq_getElem h2)
            rw [gl j _ (List.getElem?_eq_getElem h2)] at e
            exact absurd e.symm ((newUn i h1 hi).ne g1 g2)
          · rw [gn i h1, gn j h2] at e; omega
        have getNew : ∀ i b, Y.hp[i]? = some b → (asg X.hp L)[backN l fresh i]? = some (b.ren fun i => some (backN l fresh i)) := fun i b hb => by
          have hi := (List.getElem?_eq_some_iff.1 hb).1
          refine asg_in L _ _ _ (fun q hq hqi => ?_) ⟨(backN l fresh i, b.ren fun i => some (backN l fresh i)), List.mem_append.2 (.inr ?_), rfl⟩
          · rcases goneIn q hq with ⟨_, hid, _⟩ | ⟨i', b', hb', rfl⟩
            · exact absurd (hqi ▸ hid) (notPid i hi)
            · have : i' = i := ginj i' i (List.getElem?_eq_some_iff.1 hb').1 hi hqi
              subst this; rw [hb] at hb'; cases hb'; rfl
          · simp only [List.mem_map]
            exact ⟨(b, i), by rw [List.mem_zipIdx_iff_getElem?]; exact hb, rfl⟩
        have getGone : ∀ id ∈ pid, sl = true → (asg X.hp L)[id]? = some .gone := fun id hid hs => by
          refine asg_in L _ _ _ (fun q hq hqi => ?_) ⟨(id, .gone), List.mem_append.2 (.inl ?_), rfl⟩
          · rcases goneIn q hq with ⟨_, _, h⟩ | ⟨i', b', hb', rfl⟩
            · exact h
            · simp only at hqi
              rw [← hqi] at hid
              exact absurd hid (notPid i' (List.getElem?_eq_some_iff.1 hb').1)
          · rw [hs]; simp only [cond_true, List.mem_map]; exact ⟨id, hid, rfl⟩
        have getOld : ∀ id b, X.hp[id]? = some b → b ≠ .free → (sl = true → id ∉ pid) → id ∉ l → (asg X.hp L)[id]? = some b := fun id b hb hn hs hnl => by
          refine asg_out L _ _ _ (fun q hq hqi => ?_) hb
          rcases goneIn q hq with ⟨h1, h2, _⟩ | ⟨i', b', hb', rfl⟩
          · exact hs h1 (hqi ▸ h2)
          · rcases Nat.lt_or_ge i' l.length with h1 | h1
            · simp only at hqi
              rw [gl i' _ (List.getElem?_eq_getElem h1)] at hqi
              exact hnl (hqi ▸ List.getElem_mem h1)
            · exact (newUn i' h1 (List.getElem?_eq_some_iff.1 hb').1).ne hb hn hqi.symm
        have notNew : ∀ id b, X.hp[id]? = some b → b ≠ .free → ¬ (fresh ≤ id ∧ id < fresh + (Y.hp.length - l.length)) := fun id b hb hn hh => by
          have h1 := newUn (l.length + (id - fresh)) (by omega) (by omega)
          rw [gn _ (by omega)] at h1
          exact h1.ne hb hn (by omega)
        have ρOld : ∀ id b, X.hp[id]? = some b → b ≠ .free → Z.ρ id = X.ρ id := fun id b hb hn => if_neg (notNew id b hb hn)
        have ρNew : ∀ i, i < Y.hp.length → Z.ρ (backN l fresh i) = Y.ρ i := fun i hi => by
          rcases Nat.lt_or_ge i l.length with h1 | h1
          · obtain ⟨c, _, g1, g2, _, _, g3⟩ := given i _ (List.getElem?_eq_getElem h1)
            rw [gl i _ (List.getElem?_eq_getElem h1), ρOld _ c g1 g2, g3]
          · rw [gn i h1]
            show (if _ then _ else _) = _
            rw [if_pos ⟨Nat.le_add_right _ _, by omega⟩]
            congr 1; omega
        have cs : ∀ id c, (asg X.hp L)[id]? = some c → c.live = true → (∃ i b, Y.hp[i]? = some b ∧ b.live = true ∧ id = backN l fresh i ∧ c = b.ren fun i => some (backN l fresh i)) ∨ (X.hp[id]? = some c ∧ (sl = true → id ∉ pid) ∧ id ∉ l) := fun id c hc hl => by
          by_cases hin : id ∈ l
          · obtain ⟨i, hi⟩ := List.mem_iff_getElem?.1 hin
            obtain ⟨_, b', _, _, g1, _, _⟩ := given i id hi
            have h1 := getNew i b' g1
            rw [gl i id hi] at h1
            rw [h1] at hc; cases hc
            exact .inl ⟨i, b', g1, by rw [← BlkEvo.ren]; exact hl, (gl i id hi).symm, rfl⟩
          · rcases asg_cases L _ _ _ hc with ⟨q, hq, rfl, rfl⟩ | ⟨hq, h | rfl⟩
            · rcases goneIn q hq with ⟨_, _, h⟩ | ⟨i', b', hb', rfl⟩
              · rw [h] at hl; cases hl
              · exact .inl ⟨i', b', hb', by rw [← BlkEvo.ren]; exact hl, rfl, rfl⟩
            · exact .inr ⟨h, fun hs hid => (by have := getGone id hid hs; rw [this] at hc; cases hc; cases hl), hin⟩
            · cases hl
        have csize : C.w.heap.size = X.w.heap.size := by rw [cw]
        have yown : ∀ b, b < X.w.heap.size → Y.Own b → ∃ id ∈ l, ∃ blk, X.hp[id]? = some blk ∧ blk.live = true ∧ X.ρ id = some b := fun b hlt hb => cown b (W.own b (by rw [csize]; exact hlt) hb)
        have Wk : ∀ b, b < X.w.heap.size → (∀ id ∈ l, ∀ blk, X.hp[id]? = some blk → blk.live = true → X.ρ id ≠ some b) → Y.w.heap[b]? = X.w.heap[b]? := fun b hb hn => by
          rw [W.keep b (by rw [csize]; exact hb) (fun ho => by obtain ⟨id, h1, blk, h2, h3, h4⟩ := cown b ho; exact hn id h1 blk h2 h3 h4), cw]
        have zown : ∀ b, Z.Own b → (∃ i blk, Y.hp[i]? = some blk ∧ blk.live = true ∧ Y.ρ i = some b) ∨ ∃ id blk, X.hp[id]? = some blk ∧ blk.live = true ∧ X.ρ id = some b ∧ (sl = true → id ∉ pid) ∧ id ∉ l := fun b ⟨id, blk, h1, h2, h3⟩ => by
          rcases cs id blk h1 h2 with ⟨i, b', g1, g2, rfl, rfl⟩ | ⟨g1, g2⟩
          · rw [ρNew i (List.getElem?_eq_some_iff.1 g1).1] at h3
            exact .inl ⟨i, b', g1, g2, h3⟩
          · rw [ρOld id blk g1 (live_not_free h2)] at h3
            exact .inr ⟨id, blk, g1, h2, h3, g2⟩
        have WZ : WEvo X Z := by
          refine ⟨by rw [← cw]; exact W.os, by rw [← cw]; exact W.tape, by rw [← cw]; exact W.output, by rw [← cw]; exact W.size, by rw [← cw]; exact W.shape, fun b hb ho => Wk b hb fun id _ blk h2 h3 h4 => ho ⟨id, blk, h2, h3, h4⟩, fun b hb ho => ?_, fun b hb => ?_, fun b hb => ?_⟩
          · rcases zown b ho with ⟨i, blk, g1, g2, g3⟩ | ⟨id, blk, g1, g2, g3, _⟩
            · obtain ⟨id, _, blk', k1, k2, k3⟩ := yown b hb ⟨i, blk, g1, g2, g3⟩; exact ⟨id, blk', k1, k2, k3⟩
            · exact ⟨id, blk, g1, g2, g3⟩
          · show if sl = true then _ else _
            split
            · exact W.fmono b (by rw [cF]; exact .inl hb)
            · exact hb
          · have hb : if sl = true then Y.F b else X.F b := hb
            split at hb
            · rcases W.fnew b hb with h1 | h1 | h1
              · rw [cF] at h1
                rcases h1 with h1 | ⟨id, _, blk, h1, h2, h3⟩
                · exact .inl h1
                · exact .inr (.inl ⟨id, blk, h1, h2, h3⟩)
              · obtain ⟨id, _, blk, k1, k2, k3⟩ := cown b h1; exact .inr (.inl ⟨id, blk, k1, k2, k3⟩)
              · exact .inr (.inr (by rw [← csize]; exact h1))
            · exact .inl hb
        have HZ : HEvo X Z := by
          refine ⟨fun id b hb hn => ?_, fun id b hb hn => ρOld id b hb hn⟩
          by_cases hin : id ∈ l
          · obtain ⟨i, hi⟩ := List.mem_iff_getElem?.1 hin
            obtain ⟨c, b', k1, _, g1, g2, _⟩ := given i id hi
            rw [hb] at k1; cases k1
            have h1 := getNew i b' g1
            rw [gl i id hi] at h1
            exact ⟨_, h1, g2.unren⟩
          · by_cases hg : sl = true ∧ id ∈ pid
            · exact ⟨.gone, getGone id hg.2 hg.1, .gone _⟩
            · exact ⟨b, getOld id b hb hn (fun h1 h2 => hg ⟨h1, h2⟩) hin, .refl hn⟩
        have EM : Emb Y Z (fun i => some (backN l fresh i)) sl := by
          refine ⟨fun id i b hf hb => ?_, fun id i b hf hb => ?_, rfl, fun hs b hb => ?_⟩
          · simp only [Option.some.injEq] at hf; subst hf; exact getNew id b hb
          · simp only [Option.some.injEq] at hf; subst hf; exact ρNew id (List.getElem?_eq_some_iff.1 hb).1
          · show if sl = true then _ else _
            rw [if_pos hs]; exact hb
        refine hk Z u rfl (RS.emb EM (fun h => by rw [← hsl, h]; rfl) hru) ⟨fun id b hb => ?_, fun id id' b c c' h1 h2 h3 h4 h5 h6 => ?_, fun b hb => ?_⟩ WZ HZ
        · by_cases hl : b.live = true
          · rcases cs id b hb hl with ⟨i, b', g1, g2, rfl, rfl⟩ | ⟨g1, g2, g3⟩
            · refine RB.emb EM rfl g1 (fun h => ?_) (okY.blk i b' g1)
              rw [← hsl, Bool.or_eq_true]; right
              rw [List.any_eq_true]; exact ⟨b', List.mem_of_getElem? g1, h⟩
            · exact (at_.ok.blk id b g1).evo WZ HZ at_.ok.fo (ρOld id b g1 (live_not_free hl)) fun _ n hn => Wk n (at_.ok.lt ⟨id, b, g1, hl, hn⟩) fun id' hid' blk' k1 k2 k3 => g3 (at_.ok.inj id id' n b blk' g1 hl k1 k2 hn k3 ▸ hid')
          · cases b <;> first | trivial | (simp [Blk.live] at hl)
        · rcases cs id c h1 h2 with ⟨i, b1, g1, g2, rfl, rfl⟩ | ⟨g1, _, g3⟩
          · rw [ρNew i (List.getElem?_eq_some_iff.1 g1).1] at h5
            rcases cs id' c' h3 h4 with ⟨i', b2, k1, k2, rfl, rfl⟩ | ⟨k1, _, k3⟩
            · rw [ρNew i' (List.getElem?_eq_some_iff.1 k1).1] at h6
              rw [okY.inj i i' b b1 b2 g1 g2 k1 k2 h5 h6]
            · rw [ρOld id' c' k1 (live_not_free h4)] at h6
              obtain ⟨id2, m1, blk2, m2, m3, m4⟩ := yown b (at_.ok.lt ⟨id', c', k1, h4, h6⟩) ⟨i, b1, g1, g2, h5⟩
              exact absurd (at_.ok.inj id' id2 b c' blk2 k1 h4 m2 m3 h6 m4 ▸ m1) k3
          · rw [ρOld id c g1 (live_not_free h2)] at h5
            rcases cs id' c' h3 h4 with ⟨i', b2, k1, k2, rfl, rfl⟩ | ⟨k1, _⟩
            · rw [ρNew i' (List.getElem?_eq_some_iff.1 k1).1] at h6
              obtain ⟨id2, m1, blk2, m2, m3, m4⟩ := yown b (at_.ok.lt ⟨id, c, g1, h2, h5⟩) ⟨i', b2, k1, k2, h6⟩
              exact absurd (at_.ok.inj id id2 b c blk2 g1 h2 m2 m3 h5 m4 ▸ m1) g3
            · rw [ρOld id' c' k1 (live_not_free h4)] at h6
              exact at_.ok.inj id id' b c c' g1 h2 k1 h4 h5 h6
        · have hb : if sl = true then Y.F b else X.F b := hb
          split at hb
          · rename_i hs
            refine ⟨(okY.fo b hb).1, fun ho => ?_⟩
            rcases zown b ho with ⟨i, blk, g1, g2, g3⟩ | ⟨id, blk, g1, g2, g3, g4, g5⟩
            · exact (okY.fo b hb).2 ⟨i, blk, g1, g2, g3⟩
            · rcases W.fnew b hb with h1 | h1 | h1
              · rw [cF] at h1
                rcases h1 with h1 | ⟨id', hid, blk', h1, h2, h3⟩
                · exact (at_.ok.fo b h1).2 ⟨id, blk, g1, g2, g3⟩
                · exact g4 hs (at_.ok.inj id id' b blk blk' g1 g2 h1 h2 g3 h3 ▸ hid)
              · obtain ⟨id', k0, blk', k1, k2, k3⟩ := cown b h1
                exact g5 (at_.ok.inj id id' b blk blk' g1 g2 k1 k2 g3 k3 ▸ k0)
              · rw [csize] at h1
                have := at_.ok.lt ⟨id, blk, g1, g2, g3⟩
                omega
          · have hlt := (at_.ok.fo b hb).1
            refine ⟨Nat.lt_of_lt_of_le hlt (by rw [← csize]; exact W.size), fun ho => ?_⟩
            rcases zown b ho with ⟨i, blk, g1, g2, g3⟩ | ⟨id, blk, g1, g2, g3, g4⟩
            · obtain ⟨id, _, blk', k1, k2, k3⟩ := yown b hlt ⟨i, blk, g1, g2, g3⟩
              exact (at_.ok.fo b hb).2 ⟨id, blk', k1, k2, k3⟩
            · exact (at_.ok.fo b hb).2 ⟨id, blk, g1, g2, g3⟩
      obtain ⟨nx, w1, hrun, hcase⟩ := hap
      have hexec : (execOp a.eval o).run P X.w = .ok nx w1 := by
        simp only [execOp, ho, resolve, hc, Act.eval, Deferred.ofValue, Sem.run_bind, Sem.run_pure, Result.andThen_ok, invoke, Array.append_empty, Array.empty_append]
        exact hrun
      unfold Oper.wp
      rw [hexec]
      rcases hcase with ⟨u, rfl, hu⟩ | ⟨rfl, hcalls⟩
      · exact fin u w1 hu
      · exact hcalls.mono fun e w' ⟨u, he, hu⟩ => by subst he; exact fin u w' hu

end
end Go.Ev
