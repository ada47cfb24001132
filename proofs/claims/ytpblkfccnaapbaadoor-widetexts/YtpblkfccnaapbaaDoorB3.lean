import Derived.Test.YtpblkfccnaapbaaDoorB2
import Derived.Calls
import Derived.Orders
import Derived.LoopN
set_option linter.all false
section
/-
  CALLS: what a callee is told, what comes back.
-/
namespace Go.Ev
variable {A : Type}

/-- Where nothing is ours. -/
def X0 (F : Nat → Prop) (w : World) : Cx := ⟨fun _ => none, [], F, w⟩

/-- A call of a function, whether it has code or is the model's own. -/
def Applies (P : Program) (f : FuncId) (vals : Array Value) (w : World) (K : Value → World → Prop) : Prop :=
  ∃ nx w1, (callFunc f vals).run P w = .ok nx w1 ∧ ((∃ u, nx = .value u ∧ K u w1) ∨ (nx = .enter f vals ∧ Calls P f vals w1 fun e w' => ∃ u, e = .returned u ∧ K u w'))

/-- What a function does, told of what it is handed. -/
def FnSem (P : Program) (gl : GL) (f : FuncId) (args : List AV) (hp0 : List Blk) (r : AV) (hp : List Blk) : Prop :=
  ∀ (X : Cx) (vals : Array Value), X.hp = hp0 → Ok X → GOK gl X → All2 (RS X) args vals.toList →
    Applies P f vals X.w fun u w' => ∃ Y : Cx, Y.w = w' ∧ Y.hp = hp ∧ RS Y r u ∧ Ok Y ∧ WEvo X Y ∧ PEvo hp0.length X Y

def FnOK (P : Program) (gl : GL) (f : FuncId) (en : Entry A) : Prop :=
  ∀ (args : List AV) (hp0 : List Blk) (k : AV → List Blk → Option A) (out : A), en.run args hp0 k = some out → ∃ r hp, k r hp = some out ∧ FnSem P gl f args hp0 r hp

def FnsOK (P : Program) (E : Env A) : Prop := ∀ f en, E.fns.lookup f = some en → FnOK P E.gl f en

-- ------------------------------------------------------------ blocks assigned

theorem asg_out : ∀ (L : List (Nat × Blk)) (hp : List Blk) (j : Nat) (c : Blk), (∀ q ∈ L, q.1 ≠ j) → hp[j]? = some c → (asg hp L)[j]? = some c
  | [], _, _, _, _, h => h
  | q :: L, hp, j, c, hn, h => asg_out L _ j c (fun q hq => hn q (by simp [hq])) (hpSet_old _ _ _ (Ne.symm (hn q (by simp))) h)

theorem asg_in : ∀ (L : List (Nat × Blk)) (hp : List Blk) (j : Nat) (b : Blk), (∀ q ∈ L, q.1 = j → q.2 = b) → (∃ q ∈ L, q.1 = j) → (asg hp L)[j]? = some b
  | [], _, _, _, _, h => by obtain ⟨q, hq, _⟩ := h; cases hq
  | q :: L, hp, j, b, hu, h => by
    by_cases hL : ∃ q ∈ L, q.1 = j
    · exact asg_in L _ j b (fun q hq => hu q (by simp [hq])) hL
    · obtain ⟨p, hp', hpj⟩ := h
      rcases List.mem_cons.1 hp' with rfl | hp'
      · have e := hu p (by simp) hpj
        subst hpj
        exact asg_out L _ p.1 b (fun q hq hj => hL ⟨q, hq, hj⟩) (by rw [e]; exact hpSet_same ..)
      · exact absurd ⟨p, hp', hpj⟩ hL

theorem asg_cases : ∀ (L : List (Nat × Blk)) (hp : List Blk) (j : Nat) (c : Blk), (asg hp L)[j]? = some c → (∃ q ∈ L, q.1 = j ∧ q.2 = c) ∨ ((∀ q ∈ L, q.1 ≠ j) ∧ (hp[j]? = some c ∨ c = .free))
  | [], _, _, _, h => .inr ⟨by simp, .inl h⟩
  | q :: L, hp, j, c, h => by
    rcases asg_cases L _ j c h with ⟨p, hp', h1, h2⟩ | ⟨h1, h2⟩
    · exact .inl ⟨p, by simp [hp'], h1, h2⟩
    · by_cases hq : q.1 = j
      · subst hq
        rw [hpSet_same] at h2
        rcases h2 with h2 | rfl
        · cases h2; exact .inl ⟨q, by simp, rfl, rfl⟩
        · by_cases h3 : q.2 = .free
          · exact .inl ⟨q, by simp, rfl, h3⟩
          · -- the block there is q.2, and nothing else
            have := asg_out L (hpSet hp q.1 q.2) q.1 q.2 (fun p hp' => h1 p hp') (hpSet_same ..)
            have h' : (asg (hpSet hp q.1 q.2) L)[q.1]? = some .free := h
            rw [this] at h'; exact absurd (Option.some.inj h') h3
      · refine .inr ⟨fun p hp' => by rcases List.mem_cons.1 hp' with rfl | hp'; exact hq; exact h1 p hp', ?_⟩
        rcases h2 with h2 | h2
        · rcases hpSet_cases h2 with ⟨h3, _⟩ | ⟨_, h3⟩ | ⟨_, h3⟩
          · exact absurd h3.symm hq
          · exact .inl h3
          · exact .inr h3
        · exact .inr h2

-- ------------------------------------------------------------ what is handed over, as data

/-- The blocks that some numbers of ours stand for. -/
def Cx.Held (X : Cx) (ids : List Nat) (b : Nat) : Prop := ∃ id ∈ ids, ∃ blk, X.hp[id]? = some blk ∧ blk.live = true ∧ X.ρ id = some b

theorem BlkEvo.ren {b : Blk} {f : Nat → Option Nat} : (b.ren f).live = b.live := by cases b <;> rfl

theorem BlkEvo.unren {b b' : Blk} {f g : Nat → Option Nat} (h : BlkEvo (b.ren f) b') : BlkEvo b (b'.ren g) := by
  cases b with
  | var t K v => cases h with | gone => exact .gone _ | var => exact .var ..
  | row e K xs => cases h with | gone => exact .gone _ | row _ _ _ xs' hl => exact .row _ _ _ _ hl
  | map KK KV es => cases h with | gone => exact .gone _ | map => exact .map ..
  | gone => cases h; exact .gone _
  | free => cases h; exact .gone _

theorem ren_free {b : Blk} {f : Nat → Option Nat} (h : b ≠ .free) : b.ren f ≠ .free := by cases b <;> simp_all [Blk.ren]

theorem disjointB_spec' {a b : List Nat} (h : disjointB a b = true) : ∀ x ∈ a, x ∉ b := fun x hx hb => by
  unfold disjointB at h
  rw [List.all_eq_true] at h
  have := h x hx
  simp [hb] at this

theorem closure_nodup (bid : Nat → List Nat) : ∀ (f : Nat) (l acc : List Nat), acc.Nodup → (closure bid f l acc).Nodup
  | 0, _, _, h => h
  | _ + 1, [], _, h => h
  | f + 1, id :: r, acc, h => by
    simp only [closure]
    split
    · exact closure_nodup bid f r acc h
    · rename_i hc
      refine closure_nodup bid f _ _ ?_
      rw [List.nodup_append]
      refine ⟨h, by simp, fun a ha b hb hab => ?_⟩
      simp at hb; subst hb; subst hab
      simp at hc; exact hc ha

theorem pos_get {l : List Nat} {id i : Nat} (h : pos l id = some i) : l[i]? = some id := by
  unfold pos at h
  split at h
  · rename_i j hj
    cases h
    rw [List.findIdx?_eq_some_iff_getElem] at hj
    obtain ⟨h1, h2, _⟩ := hj
    rw [List.getElem?_eq_getElem h1]
    simp at h2; rw [h2]
  · cases h

/-- The blocks of some numbers, numbered anew; 'G': what is told as data from now on. -/
theorem renumber {X : Cx} {hp : List Blk} (hX : X.hp = hp) (ok : Ok X) {l : List Nat} (hl : l.Nodup) {G : List Nat} (hG : ∀ x ∈ G, x ∉ l) :
    ∃ Z : Cx, Z.w = X.w ∧ Z.hp = (l.map fun id => (hp.getD id .gone).ren (pos l)) ∧ Z.F = (fun b => X.F b ∨ X.Held G b) ∧ Ok Z ∧ WEvo X Z ∧ Emb X Z (pos l) true := by
  subst hX
  have EM : Emb X ⟨fun i => (l[i]?).bind X.ρ, l.map fun id => (X.hp.getD id .gone).ren (pos l), fun b => X.F b ∨ X.Held G b, X.w⟩ (pos l) true := by
    refine ⟨fun id i b hf hb => ?_, fun id i b hf hb => ?_, rfl, fun _ b hb => .inl hb⟩
    · have := pos_get hf
      simp only [List.getElem?_map, this, Option.map_some, List.getD_eq_getElem?_getD, hb, Option.getD_some]
    · have := pos_get hf
      simp only [this, Option.bind_some]
  have at_ : ∀ (i : Nat) (b : Blk), (l.map fun id => (X.hp.getD id .gone).ren (pos l))[i]? = some b → ∃ id, l[i]? = some id ∧ b = (X.hp.getD id .gone).ren (pos l) := fun i b hb => by
    rw [List.getElem?_map, Option.map_eq_some_iff] at hb
    obtain ⟨id, h1, h2⟩ := hb
    exact ⟨id, h1, h2.symm⟩
  have posOf : ∀ i id, l[i]? = some id → pos l id = some i := fun i id hi => by
    unfold pos
    have : l.findIdx? (· == id) = some i := by
      rw [List.findIdx?_eq_some_iff_getElem]
      obtain ⟨h1, h2⟩ := List.getElem?_eq_some_iff.1 hi
      refine ⟨h1, by simp [h2], fun j hj => ?_⟩
      simp only [beq_iff_eq, Bool.not_eq_true]
      have hne : l[j]'(by omega) ≠ id := fun e => by
        rw [← h2] at e
        exact (List.pairwise_iff_getElem.1 hl) j i (by omega) h1 hj e
      simpa using hne
    rw [this]
  have live : ∀ (i : Nat) (b : Blk), (l.map fun id => (X.hp.getD id .gone).ren (pos l))[i]? = some b → b.live = true → ∃ (id : Nat) (c : Blk), l[i]? = some id ∧ X.hp[id]? = some c ∧ c.live = true ∧ b = c.ren (pos l) := fun i b hb hlv => by
    obtain ⟨id, h1, rfl⟩ := at_ i b hb
    rw [BlkEvo.ren] at hlv
    cases hc : X.hp[id]? with
    | none => rw [List.getD_eq_getElem?_getD, hc] at hlv; cases hlv
    | some c => rw [List.getD_eq_getElem?_getD, hc] at hlv ⊢; exact ⟨id, c, h1, hc, hlv, rfl⟩
  have own : ∀ b, Cx.Own ⟨fun i => (l[i]?).bind X.ρ, l.map fun id => (X.hp.getD id .gone).ren (pos l), fun b => X.F b ∨ X.Held G b, X.w⟩ b → ∃ (i id : Nat) (c : Blk), l[i]? = some id ∧ X.hp[id]? = some c ∧ c.live = true ∧ X.ρ id = some b := fun b ⟨i, blk, h1, h2, h3⟩ => by
    obtain ⟨id, c, g1, g2, g3, _⟩ := live i blk h1 h2
    simp only [g1, Option.bind_some] at h3
    exact ⟨i, id, c, g1, g2, g3, h3⟩
  refine ⟨⟨fun i => (l[i]?).bind X.ρ, l.map fun id => (X.hp.getD id .gone).ren (pos l), fun b => X.F b ∨ X.Held G b, X.w⟩, rfl, rfl, rfl, ⟨fun i b hb => ?_, fun i i' b c c' h1 h2 h3 h4 h5 h6 => ?_, fun b hb => ?_⟩, ⟨rfl, rfl, rfl, Nat.le_refl _, fun _ c _ _ h => ⟨c, h, rfl⟩, fun _ _ _ => rfl, fun b _ ho => ?_, fun b hb => .inl hb, fun b hb => ?_⟩, EM⟩
  · by_cases hlv : b.live = true
    · obtain ⟨id, c, g1, g2, g3, rfl⟩ := live i b hb hlv
      exact RB.emb EM (posOf i id g1) g2 (fun _ => rfl) (ok.blk id c g2)
    · cases b <;> first | trivial | (simp [Blk.live] at hlv)
  · obtain ⟨id, d, g1, g2, g3, _⟩ := live i c h1 h2
    obtain ⟨id', d', k1, k2, k3, _⟩ := live i' c' h3 h4
    simp only [g1, k1, Option.bind_some] at h5 h6
    have e := ok.inj id id' b d d' g2 g3 k2 k3 h5 h6
    subst e
    have := posOf i id g1
    rw [posOf i' id k1] at this
    exact (Option.some.inj this).symm
  · rcases hb with hb | ⟨g, hg, blk, h1, h2, h3⟩
    · refine ⟨(ok.fo b hb).1, fun ho => ?_⟩
      obtain ⟨i, id, c, g1, g2, g3, g4⟩ := own b ho
      exact (ok.fo b hb).2 ⟨id, c, g2, g3, g4⟩
    · refine ⟨ok.lt ⟨g, blk, h1, h2, h3⟩, fun ho => ?_⟩
      obtain ⟨i, id, c, g1, g2, g3, g4⟩ := own b ho
      have e := ok.inj g id b blk c h1 h2 g2 g3 h3 g4
      subst e
      exact hG g hg (List.mem_of_getElem? g1)
  · obtain ⟨i, id, c, g1, g2, g3, g4⟩ := own b ho
    exact ⟨id, c, g2, g3, g4⟩
  · rcases hb with hb | ⟨g, hg, blk, h1, h2, h3⟩
    · exact .inl hb
    · exact .inr (.inl ⟨g, blk, h1, h2, h3⟩)

theorem pos_of {l : List Nat} (hl : l.Nodup) {i id : Nat} (hi : l[i]? = some id) : pos l id = some i := by
  unfold pos
  have : l.findIdx? (· == id) = some i := by
    rw [List.findIdx?_eq_some_iff_getElem]
    obtain ⟨h1, h2⟩ := List.getElem?_eq_some_iff.1 hi
    refine ⟨h1, by simp [h2], fun j hj => ?_⟩
    simp only [beq_iff_eq, Bool.not_eq_true]
    have hne : l[j]'(by omega) ≠ id := fun e => by
      rw [← h2] at e
      exact (List.pairwise_iff_getElem.1 hl) j i (by omega) h1 hj e
    simpa using hne
  rw [this]

theorem pureK_leaf {out : A} {sub : List (Nat × Blk)} {v : AV} {k : AV → Option A} (h : (listK sub v fun K xs => k (.p (.sl K) xs)) = some out) (hid : ∃ id, v.ids = [id]) (h1 : ∀ K x, v ≠ .p K x) (h2 : ∀ a b, v ≠ .pr a b) (hagg : v.agg = false) :
      ∃ K x, k (.p K x) = some out ∧ (∀ id ∈ v.ids, ∃ c, sub.lookup id = some c ∧ c.live = true) ∧ ∀ {X : Cx} {F : Nat → Prop} {cs : List Value}, Ok X → (∀ (id : Nat) (b : Blk), sub.lookup id = some b → X.hp[id]? = some b) →
      (∀ b, X.F b → F b) → (∀ b, X.Held v.ids b → F b) → RA X v cs → RP F X.w K x cs ∧ v.agg = K.isAgg := by
    obtain ⟨K, ys, h', hl⟩ := listK_sound h
    refine ⟨.sl K, ys, h', ?_, fun {X F cs} ok hs hF hH hr => ⟨?_, by rw [hagg]; rfl⟩⟩
    · obtain ⟨id, hid⟩ := hid
      intro j hj
      rw [hid] at hj; simp at hj; subst hj
      cases v with
      | row i => simp [AV.ids] at hid; subst hid; obtain ⟨b, hb, h⟩ := look_sound h; refine ⟨b, hb, ?_⟩; cases b <;> first | rfl | (cases h)
      | sub i _ _ => simp [AV.ids] at hid; subst hid; obtain ⟨b, hb, h⟩ := look_sound h; refine ⟨b, hb, ?_⟩; cases b <;> first | rfl | (cases h)
      | slc i _ _ _ => simp [AV.ids] at hid; subst hid; obtain ⟨b, hb, h⟩ := look_sound h; refine ⟨b, hb, ?_⟩; cases b <;> first | rfl | (cases h)
      | pr a b => exact absurd rfl (h2 a b)
      | p K x => exact absurd rfl (h1 K x)
      | ptr _ _ => simp [listK] at h
      | mp _ => simp [listK] at h
      | _ => simp [AV.ids] at hid
    · obtain ⟨u, rfl, h3⟩ := (RA.single h1 h2).1 hr
      have hany : v ≠ .any := fun e => by rw [e] at hid; obtain ⟨_, h⟩ := hid; simp [AV.ids] at h
      have htup : ∀ vs, v ≠ .tup vs := fun vs e => by rw [e] at hid; obtain ⟨_, h⟩ := hid; simp [AV.ids] at h
      obtain ⟨ao, c, rfl, h4, h5⟩ := (hl X u ok hs ((RS.one h1 h2 hany htup).2 h3)).get
      refine ⟨ao, c, rfl, h4, fun hp => ?_⟩
      obtain ⟨ad, css, rfl, h6, h7, h8⟩ := h5 hp
      refine ⟨ad, css, rfl, ?_, h7.imp fun _ _ _ _ hr => RP.mono hF (fun _ _ => rfl) hr, h8⟩
      rcases h6 with h6 | ⟨id, hid, hρ, b, hb, hl⟩
      · exact hF _ h6
      · exact hH _ ⟨id, hid, b, hb, hl, hρ⟩

theorem pureK_sound {out : A} {sub : List (Nat × Blk)} : ∀ {v : AV} {k : AV → Option A}, pureK sub v k = some out →
    ∃ K x, k (.p K x) = some out ∧ (∀ id ∈ v.ids, ∃ c, sub.lookup id = some c ∧ c.live = true) ∧ ∀ {X : Cx} {F : Nat → Prop} {cs : List Value}, Ok X → (∀ (id : Nat) (b : Blk), sub.lookup id = some b → X.hp[id]? = some b) →
      (∀ b, X.F b → F b) → (∀ b, X.Held v.ids b → F b) → RA X v cs → RP F X.w K x cs ∧ v.agg = K.isAgg
  | .p K x, k, h => ⟨K, x, h, by simp [AV.ids], fun {X F cs} ok hs hF hH hr => ⟨RP.mono hF (fun _ _ => rfl) hr, rfl⟩⟩
  | .pr a b, k, h => by
    simp only [pureK] at h
    obtain ⟨K, x, h, s1, r1⟩ := pureK_sound h
    obtain ⟨K', x', h, s2, r2⟩ := pureK_sound h
    refine ⟨_, _, h, fun id hid => ?_, fun {X F cs} ok hs hF hH hr => ?_⟩
    · simp only [AV.ids, List.mem_append] at hid
      exact hid.elim (s1 id) (s2 id)
    · obtain ⟨c1, c2, rfl, h1, h2⟩ := hr
      obtain ⟨g1, _⟩ := r1 ok hs hF (fun b hb => hH b (by obtain ⟨id, h, r⟩ := hb; exact ⟨id, by simp [AV.ids, h], r⟩)) h1
      obtain ⟨g2, _⟩ := r2 ok hs hF (fun b hb => hH b (by obtain ⟨id, h, r⟩ := hb; exact ⟨id, by simp [AV.ids, h], r⟩)) h2
      exact ⟨⟨c1, c2, rfl, g1, g2⟩, rfl⟩
  | .row id, k, h => pureK_leaf (v := .row id) (by simpa [pureK] using h) ⟨id, by simp [AV.ids]⟩ (by simp) (by simp) rfl
  | .sub id a b, k, h => pureK_leaf (v := .sub id a b) (by simpa [pureK] using h) ⟨id, by simp [AV.ids]⟩ (by simp) (by simp) rfl
  | .slc id q a b, k, h => pureK_leaf (v := .slc id q a b) (by simpa [pureK] using h) ⟨id, by simp [AV.ids]⟩ (by simp) (by simp) rfl
  | .any, k, h => by simp [pureK] at h
  | .ptr _ _, k, h => by simp [pureK] at h
  | .vp _ _, k, h => by simp [pureK] at h
  | .mp _, k, h => by simp [pureK] at h
  | .nilp, k, h => by simp [pureK] at h
  | .tup _, k, h => by simp [pureK] at h
theorem own_noTup {v : AV} (h : v.isTup = false) : ∀ ws, v ≠ .tup ws := fun ws e => by subst e; cases h

/-- What one argument that is data comes to. -/
theorem pureK_RS {out : A} {sub : List (Nat × Blk)} {v : AV} {k : AV → Option A} (h : pureK sub v k = some out) :
    ∃ K x, k (.p K x) = some out ∧ (∀ id ∈ v.ids, ∃ c, sub.lookup id = some c ∧ c.live = true) ∧ ∀ {X Z : Cx} {u : Value}, Ok X → (∀ (id : Nat) (b : Blk), sub.lookup id = some b → X.hp[id]? = some b) →
      Z.w = X.w → (∀ b, X.F b → Z.F b) → (∀ b, X.Held v.ids b → Z.F b) → RS X v u → RS Z (.p K x) u := by
  have h0 := h
  obtain ⟨K, x, h, s1, r1⟩ := pureK_sound h
  refine ⟨K, x, h, s1, fun {X Z u} ok hs hw hF hH hu => ?_⟩
  have htup : ∀ ws, v ≠ .tup ws := fun ws e => by subst e; simp [pureK] at h0
  have hany : v.isAny = false := by cases v <;> first | rfl | (simp [pureK] at h0)
  rcases hu.to0 htup with h3 | ⟨cs, h3, h4⟩
  · rw [hany] at h3; cases h3
  · obtain ⟨g1, g2⟩ := r1 ok hs hF hH h3
    rw [← hw] at g1
    refine RS.of0 (.inr ⟨cs, g1, ?_⟩) (by simp)
    rw [g2] at h4; exact h4

theorem passK_sound {out : A} {sub : List (Nat × Blk)} : ∀ {os : List Bool} {vs : List AV} {k : List AV → Option A}, passK sub os vs k = some out →
    ∃ vs', k vs' = some out ∧ (∀ id ∈ pureIds os vs, ∃ c, sub.lookup id = some c ∧ c.live = true) ∧ (∀ id ∈ vs'.flatMap AV.ids, ∃ v ∈ vs, id ∈ v.ids) ∧ ∀ {X Z : Cx} {f : Nat → Option Nat} {us : List Value}, Ok X → (∀ (id : Nat) (b : Blk), sub.lookup id = some b → X.hp[id]? = some b) →
      Z.w = X.w → (∀ b, X.F b → Z.F b) → (∀ b, X.Held (pureIds os vs) b → Z.F b) → Emb X Z f true → All2 (RS X) vs us → All2 (RS Z) (vs'.map fun v => v.ren f) us
  | os, [], k, h => ⟨[], by cases os with | nil => exact h | cons b _ => cases b <;> exact h, by cases os with | nil => simp [pureIds] | cons b _ => cases b <;> simp [pureIds], by simp, fun _ _ _ _ _ _ h => by cases h; exact .nil⟩
  | true :: os, v :: vs, k, h => by
    simp only [passK] at h
    obtain ⟨vs', h, s2, s3, r2⟩ := passK_sound h
    refine ⟨_, h, by simpa [pureIds] using s2, fun id hid => ?_, fun {X Z f us} ok hs hw hF hH EM hr => ?_⟩
    · rw [List.flatMap_cons, List.mem_append] at hid
      rcases hid with hid | hid
      · exact ⟨v, by simp, hid⟩
      · obtain ⟨w, hw, h⟩ := s3 id hid; exact ⟨w, by simp [hw], h⟩
    · cases hr with
      | @cons _ u _ us hu hr => exact .cons (RS.emb EM (fun _ => rfl) hu) (r2 ok hs hw hF (by simpa [pureIds] using hH) EM hr)
  | false :: os, v :: vs, k, h => by
    simp only [passK] at h
    obtain ⟨K, x, h, s1, r1⟩ := pureK_RS h
    obtain ⟨vs', h, s2, s3, r2⟩ := passK_sound h
    refine ⟨_, h, fun id hid => ?_, fun id hid => ?_, fun {X Z f us} ok hs hw hF hH EM hr => ?_⟩
    · simp only [pureIds, List.mem_append] at hid; exact hid.elim (s1 id) (s2 id)
    · rw [List.flatMap_cons, List.mem_append] at hid
      rcases hid with hid | hid
      · simp [AV.ids] at hid
      · obtain ⟨w, hw, h⟩ := s3 id hid; exact ⟨w, by simp [hw], h⟩
    · cases hr with
      | @cons _ u _ us hu hr =>
        exact .cons (r1 ok hs hw hF (fun b hb => hH b (by obtain ⟨id, h, r⟩ := hb; exact ⟨id, by simp only [pureIds, List.mem_append]; exact .inl h, r⟩)) hu)
          (r2 ok hs hw hF (fun b hb => hH b (by obtain ⟨id, h, r⟩ := hb; exact ⟨id, by simp only [pureIds, List.mem_append]; exact .inr h, r⟩)) EM hr)
  | [], v :: vs, k, h => by
    simp only [passK] at h
    obtain ⟨K, x, h, s1, r1⟩ := pureK_RS h
    obtain ⟨vs', h, s2, s3, r2⟩ := passK_sound h
    refine ⟨_, h, fun id hid => ?_, fun id hid => ?_, fun {X Z f us} ok hs hw hF hH EM hr => ?_⟩
    · simp only [pureIds, List.mem_append] at hid; exact hid.elim (s1 id) (s2 id)
    · rw [List.flatMap_cons, List.mem_append] at hid
      rcases hid with hid | hid
      · simp [AV.ids] at hid
      · obtain ⟨w, hw, h⟩ := s3 id hid; exact ⟨w, by simp [hw], h⟩
    · cases hr with
      | @cons _ u _ us hu hr =>
        exact .cons (r1 ok hs hw hF (fun b hb => hH b (by obtain ⟨id, h, r⟩ := hb; exact ⟨id, by simp only [pureIds, List.mem_append]; exact .inl h, r⟩)) hu)
          (r2 ok hs hw hF (fun b hb => hH b (by obtain ⟨id, h, r⟩ := hb; exact ⟨id, by simp only [pureIds, List.mem_append]; exact .inr h, r⟩)) EM hr)

theorem argsV_sound {P : Program} {E : Env A} {ev : Operand → AV} {out : A} : ∀ {l : List (TypeId × Operand)} {k : List AV → Option A}, argsV E ev l k = some out →
    ∃ vs, k vs = some out ∧ (∀ v ∈ vs, ∀ id ∈ v.ids, ∃ q ∈ l, v = ev q.2) ∧ ∀ (X : Cx) (a : Act), (∀ q ∈ l, RS X (ev q.2) (a.eval q.2)) → All2 (RS X) vs (l.map fun q => a.eval q.2)
  | [], k, h => ⟨[], h, by simp, fun _ _ _ => .nil⟩
  | (t, x) :: r, k, h => by
    simp only [argsV, argV] at h
    split at h
    · obtain ⟨i, _, h⟩ := ti_sound h
      split at h
      · rename_i K _
        obtain ⟨vs, h, h1, h2⟩ := argsV_sound (P := P) h
        refine ⟨_, h, fun v hv id hid => ?_, fun X a hr => .cons ?_ (h2 X a fun q hq => hr q (by simp [hq]))⟩
        · rcases List.mem_cons.1 hv with rfl | hv
          · simp [AV.ids] at hid
          · obtain ⟨q, hq, e⟩ := h1 v hv id hid; exact ⟨q, by simp [hq], e⟩
        · exact RS.of0 (.inr ⟨[.slice none 0 0], ⟨none, 0, rfl, Nat.le_refl _, fun h => absurd h (by simp)⟩, .inr ⟨rfl, rfl⟩⟩) (by simp)
      · cases h
    · obtain ⟨vs, h, h1, h2⟩ := argsV_sound (P := P) h
      refine ⟨_, h, fun v hv id hid => ?_, fun X a hr => .cons (hr (t, x) (by simp)) (h2 X a fun q hq => hr q (by simp [hq]))⟩
      rcases List.mem_cons.1 hv with rfl | hv
      · exact ⟨(t, x), by simp, rfl⟩
      · obtain ⟨q, hq, e⟩ := h1 v hv id hid; exact ⟨q, by simp [hq], e⟩


section
variable {P : Program} {E : Env A} {o : Oper} {ev : Operand → AV} {sub : List (Nat × Blk)} {fresh : Nat} {k : Cont A} {out : A}

set_option maxHeartbeats 2000000 in
theorem call_sound (fns : FnsOK P E) (hev : ∀ g, ev (.global g) = glv E.gl g) {f : FuncId} {c : Call} (ho : o.op = .call c) (hc : c.callee = .value (.func f)) (hsz : c.argTypes.size = c.args.size)
    (h : (argsV E ev (c.argTypes.toList.zip c.args.toList) fun args => callK E f args sub fresh k) = some out) : ∃ v l, k v l = some out ∧ OpSem P o ev sub fresh v l := by
  have marg : ∀ x ∈ c.args, x ∈ o.op.operands := fun x hx => by simp [Op.operands, ho, Call.operands, hc, hx]
  have hzip : (c.argTypes.toList.zip c.args.toList).map (·.2) = c.args.toList := by
    rw [List.map_snd_zip]; simp [hsz]
  obtain ⟨args, h, _, hargs⟩ := argsV_sound (P := P) h
  unfold callK at h
  split at h
  · cases h
  · rename_i en hen
    obtain ⟨vs, h, hsub, _, hpass⟩ := passK_sound h
    have hnd : (closure (subIds sub) 1000 (vs.flatMap AV.ids) []).Nodup := closure_nodup _ _ _ _ (by simp)
    simp only at h
    generalize hl0 : closure (subIds sub) 1000 (vs.flatMap AV.ids) [] = l at h hnd
    generalize hpid : pureIds en.own args = pid at h hsub hpass
    cases hchk : disjointB pid l && l.all (fun id => ((sub.lookup id).getD .free).there) with
    | false => rw [hchk] at h; cases h
    | true =>
    rw [hchk] at h
    simp only [cond_true] at h
    rw [Bool.and_eq_true] at hchk
    have hdis : ∀ x ∈ pid, x ∉ l := disjointB_spec' hchk.1
    have hlk : ∀ id ∈ l, ∃ c, sub.lookup id = some c ∧ c ≠ .free := fun id hid => by
      have := (List.all_eq_true.1 hchk.2) id hid
      cases hq : sub.lookup id with
      | none => rw [hq] at this; cases this
      | some c => refine ⟨c, rfl, fun e => ?_⟩; rw [hq, e] at this; cases this
    obtain ⟨r, hp, h, hsem⟩ := fns f en hen _ _ _ out h
    -- the callee's numbers are ours
    have gl : ∀ i id, l[i]? = some id → backN l fresh i = id := fun i id hi => by unfold backN; rw [hi]
    have gn : ∀ i, l.length ≤ i → backN l fresh i = fresh + (i - l.length) := fun i hi => by unfold backN; rw [List.getElem?_eq_none hi]
    refine ⟨_, _, h, ?_, ?_⟩
    · intro q hq
      rcases List.mem_append.1 hq with hq | hq
      · right
        cases hsl : (r.hasSl || hp.any Blk.hasSl) with
        | false => rw [hsl] at hq; simp at hq
        | true =>
          rw [hsl] at hq
          simp only [cond_true, List.mem_map] at hq
          obtain ⟨id, hid, rfl⟩ := hq
          obtain ⟨c, hc, _⟩ := hsub id hid; exact ⟨c, hc⟩
      · simp only [List.mem_map] at hq
        obtain ⟨p, _, rfl⟩ := hq
        rcases Nat.lt_or_ge p.2 l.length with hlt | hge
        · right
          obtain ⟨c, hc, _⟩ := hlk l[p.2] (List.getElem_mem hlt)
          exact ⟨c, by rw [gl p.2 _ (List.getElem?_eq_getElem hlt)]; exact hc⟩
        · left; rw [gn _ hge]; exact Nat.le_add_right _ _
    · intro X a Kc Q at_ hun hk
      -- what the callee is told
      obtain ⟨C, cw, chp, cF, okC, WC, EC⟩ := renumber (X := X) rfl at_.ok hnd hdis
      have hr0 : All2 (RS X) args (c.args.map a.eval).toList := by
        have := hargs X a fun q hq => at_.opr _ (marg _ (by have := (List.of_mem_zip (a := q.1) (b := q.2) hq).2; simpa using this))
        rw [Array.toList_map, ← hzip, List.map_map]; exact this
      have hr1 : All2 (RS C) (vs.map fun v => v.ren (pos l)) (c.args.map a.eval).toList :=
        hpass at_.ok at_.sub cw (fun b hb => by rw [cF]; exact .inl hb) (fun b hb => by rw [cF]; exact .inr hb) EC hr0
      have hp0 : C.hp = l.map fun id => ((sub.lookup id).getD .gone).ren (pos l) := by
        rw [chp]
        refine List.map_congr_left fun id hid => ?_
        obtain ⟨c, hc, _⟩ := hlk id hid
        rw [List.getD_eq_getElem?_getD, at_.sub id c hc, hc]
      have hglo : GOK E.gl C := GOK.evo WC at_.ok.fo fun g => by rw [← hev g]; exact at_.glo g
      have hap := hsem C (c.args.map a.eval) hp0 okC hglo hr1
      rw [cw, List.length_map] at hap
      have lX : ∀ i id, l[i]? = some id → ∃ c, X.hp[id]? = some c ∧ c ≠ .free ∧ C.hp[i]? = some (c.ren (pos l)) ∧ C.ρ i = X.ρ id := fun i id hi => by
        obtain ⟨c, hc, hn⟩ := hlk id (List.mem_of_getElem? hi)
        have hx := at_.sub id c hc
        have hpo := pos_of hnd hi
        exact ⟨c, hx, hn, EC.hp id i c hpo hx, EC.ρ id i c hpo hx⟩
      have cown : ∀ b, C.Own b → ∃ id ∈ l, ∃ blk, X.hp[id]? = some blk ∧ blk.live = true ∧ X.ρ id = some b := fun b ⟨i, blk, h1, h2, h3⟩ => by
        have hi : i < l.length := by
          have := (List.getElem?_eq_some_iff.1 h1).1
          rw [chp, List.length_map] at this; exact this
        obtain ⟨c, g1, g2, g3, g4⟩ := lX i _ (List.getElem?_eq_getElem hi)
        rw [g3] at h1; cases h1
        rw [g4] at h3
        exact ⟨_, List.getElem_mem hi, c, g1, by rw [BlkEvo.ren] at h2; exact h2, h3⟩
      -- what is behind it
      have fin : ∀ (u : Value) (w' : World), (∃ Y : Cx, Y.w = w' ∧ Y.hp = hp ∧ RS Y r u ∧ Ok Y ∧ WEvo C Y ∧ PEvo l.length C Y) → Kc (a.put o.dst u) w' := by
        rintro u w' ⟨Y, rfl, rfl, hru, okY, W, V⟩
        generalize hsl : (r.hasSl || Y.hp.any Blk.hasSl) = sl at h hun hk
        let L : List (Nat × Blk) := (bif sl then pid.map fun id => (id, Blk.gone) else []) ++ Y.hp.zipIdx.map fun q => (backN l fresh q.2, q.1.ren fun i => some (backN l fresh i))
        let Z : Cx := ⟨fun id => if fresh ≤ id ∧ id < fresh + (Y.hp.length - l.length) then Y.ρ (l.length + (id - fresh)) else X.ρ id, asg X.hp L, fun b => if sl = true then Y.F b else X.F b, Y.w⟩
        -- what was handed over
        have given : ∀ i id, l[i]? = some id → ∃ c b', X.hp[id]? = some c ∧ c ≠ .free ∧ Y.hp[i]? = some b' ∧ BlkEvo (c.ren (pos l)) b' ∧ Y.ρ i = X.ρ id := fun i id hi => by
          obtain ⟨c, g1, g2, g3, g4⟩ := lX i id hi
          have hlt := (List.getElem?_eq_some_iff.1 hi).1
          obtain ⟨b', h1, h2⟩ := V.hp i _ hlt g3 (ren_free g2)
          exact ⟨c, b', g1, g2, h1, h2, by rw [V.ρ i _ hlt g3 (ren_free g2), g4]⟩
        -- the new numbers
        have newUn : ∀ i, l.length ≤ i → i < Y.hp.length → X.unused (backN l fresh i) := fun i hge hi => by
          refine hun (backN l fresh i, (Y.hp[i]).ren fun i => some (backN l fresh i)) (List.mem_append.2 (.inr ?_)) (by rw [gn i hge]; exact Nat.le_add_right _ _)
          simp only [List.mem_map]
          exact ⟨(Y.hp[i], i), by rw [List.mem_zipIdx_iff_getElem?]; simp [hi], rfl⟩
        have goneIn : ∀ q ∈ L, (sl = true ∧ q.1 ∈ pid ∧ q.2 = .gone) ∨ ∃ i b, Y.hp[i]? = some b ∧ q = (backN l fresh i, b.ren fun i => some (backN l fresh i)) := fun q hq => by
          rcases List.mem_append.1 hq with hq | hq
          · cases hs : sl with
            | false => rw [hs] at hq; simp at hq
            | true =>
              rw [hs] at hq
              simp only [cond_true, List.mem_map] at hq
              obtain ⟨id, hid, rfl⟩ := hq
              exact .inl ⟨rfl, hid, rfl⟩
          · simp only [List.mem_map] at hq
            obtain ⟨p, hp, rfl⟩ := hq
            rw [List.mem_zipIdx_iff_getElem?] at hp
            exact .inr ⟨p.2, p.1, hp, rfl⟩
        have idsX : ∀ id ∈ pid, ∃ c, X.hp[id]? = some c ∧ c.live = true := fun id hid => by
          obtain ⟨c, hc, hl⟩ := hsub id hid
          exact ⟨c, at_.sub _ _ hc, hl⟩
        have notPid : ∀ i, i < Y.hp.length → backN l fresh i ∉ pid := fun i hi hid => by
          rcases Nat.lt_or_ge i l.length with hlt | hge
          · rw [gl i _ (List.getElem?_eq_getElem hlt)] at hid
            exact hdis _ hid (List.getElem_mem hlt)
          · obtain ⟨c, hc, hl⟩ := idsX _ hid
            exact (newUn i hge hi).ne hc (live_not_free hl) rfl
        have ginj : ∀ i j, i < Y.hp.length → j < Y.hp.length → backN l fresh i = backN l fresh j → i = j := fun i j hi hj e => by
          rcases Nat.lt_or_ge i l.length with h1 | h1 <;> rcases Nat.lt_or_ge j l.length with h2 | h2
          · rw [gl i _ (List.getElem?_eq_getElem h1), gl j _ (List.getElem?_eq_getElem h2)] at e
            have k1 := pos_of hnd (List.getElem?_eq_getElem h1)
            have k2 := pos_of hnd (List.getElem?_eq_getElem h2)
            rw [e, k2] at k1
            exact (Option.some.inj k1).symm
          · obtain ⟨c, _, g1, g2, _⟩ := given i _ (List.getElem?_eq_getElem h1)
            rw [gl i _ (List.getElem?_eq_getElem h1)] at e
            exact absurd e ((newUn j h2 hj).ne g1 g2)
          · obtain ⟨c, _, g1, g2, _⟩ := given j _ (List.getElem?_eq_getElem h2)
            rw [gl j _ (List.getElem?_eq_getElem h2)] at e
            exact absurd e.symm ((newUn i h1 hi).ne g1 g2)
          · rw [gn i h1, gn j h2] at e; omega
        have getNew : ∀ i b, Y.hp[i]? = some b → (asg X.hp L)[backN l fresh i]? = some (b.ren fun i => some (backN l fresh i)) := fun i b hb => by
          have hi := (List.getElem?_eq_some_iff.1 hb).1
          refine asg_in L _ _ _ (fun q hq hqi => ?_) ⟨(backN l fresh i, b.ren fun i => some (backN l fresh i)), List.mem_append.2 (.inr ?_), rfl⟩
          · rcases goneIn q hq with ⟨_, hid, _⟩ | ⟨i', b', hb', rfl⟩
            · exact absurd (hqi ▸ hid) (notPid i hi)
            · have : i' = i := ginj i' i (List.getElem?_eq_some_iff.1 hb').1 hi hqi
              subst this; rw [hb] at hb'; cases hb'; rfl
          · simp only [List.mem_map]
            exact ⟨(b, i), by rw [List.mem_zipIdx_iff_getElem?]; exact hb, rfl⟩
        have getGone : ∀ id ∈ pid, sl = true → (asg X.hp L)[id]? = some .gone := fun id hid hs => by
          refine asg_in L _ _ _ (fun q hq hqi => ?_) ⟨(id, .gone), List.mem_append.2 (.inl ?_), rfl⟩
          · rcases goneIn q hq with ⟨_, _, h⟩ | ⟨i', b', hb', rfl⟩
            · exact h
            · simp only at hqi
              rw [← hqi] at hid
              exact absurd hid (notPid i' (List.getElem?_eq_some_iff.1 hb').1)
          · rw [hs]; simp only [cond_true, List.mem_map]; exact ⟨id, hid, rfl⟩
        have getOld : ∀ id b, X.hp[id]? = some b → b ≠ .free → (sl = true → id ∉ pid) → id ∉ l → (asg X.hp L)[id]? = some b := fun id b hb hn hs hnl => by
          refine asg_out L _ _ _ (fun q hq hqi => ?_) hb
          rcases goneIn q hq with ⟨h1, h2, _⟩ | ⟨i', b', hb', rfl⟩
          · exact hs h1 (hqi ▸ h2)
          · rcases Nat.lt_or_ge i' l.length with h1 | h1
            · simp only at hqi
              rw [gl i' _ (List.getElem?_eq_getElem h1)] at hqi
              exact hnl (hqi ▸ List.getElem_mem h1)
            · exact (newUn i' h1 (List.getElem?_eq_some_iff.1 hb').1).ne hb hn hqi.symm
        have notNew : ∀ id b, X.hp[id]? = some b → b ≠ .free → ¬ (fresh ≤ id ∧ id < fresh + (Y.hp.length - l.length)) := fun id b hb hn hh => by
          have h1 := newUn (l.length + (id - fresh)) (by omega) (by omega)
          rw [gn _ (by omega)] at h1
          exact h1.ne hb hn (by omega)
        have ρOld : ∀ id b, X.hp[id]? = some b → b ≠ .free → Z.ρ id = X.ρ id := fun id b hb hn => if_neg (notNew id b hb hn)
        have ρNew : ∀ i, i < Y.hp.length → Z.ρ (backN l fresh i) = Y.ρ i := fun i hi => by
          rcases Nat.lt_or_ge i l.length with h1 | h1
          · obtain ⟨c, _, g1, g2, _, _, g3⟩ := given i _ (List.getElem?_eq_getElem h1)
            rw [gl i _ (List.getElem?_eq_getElem h1), ρOld _ c g1 g2, g3]
          · rw [gn i h1]
            show (if _ then _ else _) = _
            rw [if_pos ⟨Nat.le_add_right _ _, by omega⟩]
            congr 1; omega
        have cs : ∀ id c, (asg X.hp L)[id]? = some c → c.live = true → (∃ i b, Y.hp[i]? = some b ∧ b.live = true ∧ id = backN l fresh i ∧ c = b.ren fun i => some (backN l fresh i)) ∨ (X.hp[id]? = some c ∧ (sl = true → id ∉ pid) ∧ id ∉ l) := fun id c hc hl => by
          by_cases hin : id ∈ l
          · obtain ⟨i, hi⟩ := List.mem_iff_getElem?.1 hin
            obtain ⟨_, b', _, _, g1, _, _⟩ := given i id hi
            have h1 := getNew i b' g1
            rw [gl i id hi] at h1
            rw [h1] at hc; cases hc
            exact .inl ⟨i, b', g1, by rw [← BlkEvo.ren]; exact hl, (gl i id hi).symm, rfl⟩
          · rcases asg_cases L _ _ _ hc with ⟨q, hq, rfl, rfl⟩ | ⟨hq, h | rfl⟩
            · rcases goneIn q hq with ⟨_, _, h⟩ | ⟨i', b', hb', rfl⟩
              · rw [h] at hl; cases hl
              · exact .inl ⟨i', b', hb', by rw [← BlkEvo.ren]; exact hl, rfl, rfl⟩
            · exact .inr ⟨h, fun hs hid => (by have := getGone id hid hs; rw [this] at hc; cases hc; cases hl), hin⟩
            · cases hl
        have csize : C.w.heap.size = X.w.heap.size := by rw [cw]
        have yown : ∀ b, b < X.w.heap.size → Y.Own b → ∃ id ∈ l, ∃ blk, X.hp[id]? = some blk ∧ blk.live = true ∧ X.ρ id = some b := fun b hlt hb => cown b (W.own b (by rw [csize]; exact hlt) hb)
        have Wk : ∀ b, b < X.w.heap.size → (∀ id ∈ l, ∀ blk, X.hp[id]? = some blk → blk.live = true → X.ρ id ≠ some b) → Y.w.heap[b]? = X.w.heap[b]? := fun b hb hn => by
          rw [W.keep b (by rw [csize]; exact hb) (fun ho => by obtain ⟨id, h1, blk, h2, h3, h4⟩ := cown b ho; exact hn id h1 blk h2 h3 h4), cw]
        have zown : ∀ b, Z.Own b → (∃ i blk, Y.hp[i]? = some blk ∧ blk.live = true ∧ Y.ρ i = some b) ∨ ∃ id blk, X.hp[id]? = some blk ∧ blk.live = true ∧ X.ρ id = some b ∧ (sl = true → id ∉ pid) ∧ id ∉ l := fun b ⟨id, blk, h1, h2, h3⟩ => by
          rcases cs id blk h1 h2 with ⟨i, b', g1, g2, rfl, rfl⟩ | ⟨g1, g2⟩
          · rw [ρNew i (List.getElem?_eq_some_iff.1 g1).1] at h3
            exact .inl ⟨i, b', g1, g2, h3⟩
          · rw [ρOld id blk g1 (live_not_free h2)] at h3
            exact .inr ⟨id, blk, g1, h2, h3, g2⟩
        have WZ : WEvo X Z := by
          refine ⟨by rw [← cw]; exact W.os, by rw [← cw]; exact W.tape, by rw [← cw]; exact W.output, by rw [← cw]; exact W.size, by rw [← cw]; exact W.shape, fun b hb ho => Wk b hb fun id _ blk h2 h3 h4 => ho ⟨id, blk, h2, h3, h4⟩, fun b hb ho => ?_, fun b hb => ?_, fun b hb => ?_⟩
          · rcases zown b ho with ⟨i, blk, g1, g2, g3⟩ | ⟨id, blk, g1, g2, g3, _⟩
            · obtain ⟨id, _, blk', k1, k2, k3⟩ := yown b hb ⟨i, blk, g1, g2, g3⟩; exact ⟨id, blk', k1, k2, k3⟩
            · exact ⟨id, blk, g1, g2, g3⟩
          · show if sl = true then _ else _
            split
            · exact W.fmono b (by rw [cF]; exact .inl hb)
            · exact hb
          · have hb : if sl = true then Y.F b else X.F b := hb
            split at hb
            · rcases W.fnew b hb with h1 | h1 | h1
              · rw [cF] at h1
                rcases h1 with h1 | ⟨id, _, blk, h1, h2, h3⟩
                · exact .inl h1
                · exact .inr (.inl ⟨id, blk, h1, h2, h3⟩)
              · obtain ⟨id, _, blk, k1, k2, k3⟩ := cown b h1; exact .inr (.inl ⟨id, blk, k1, k2, k3⟩)
              · exact .inr (.inr (by rw [← csize]; exact h1))
            · exact .inl hb
        have HZ : HEvo X Z := by
          refine ⟨fun id b hb hn => ?_, fun id b hb hn => ρOld id b hb hn⟩
          by_cases hin : id ∈ l
          · obtain ⟨i, hi⟩ := List.mem_iff_getElem?.1 hin
            obtain ⟨c, b', k1, _, g1, g2, _⟩ := given i id hi
            rw [hb] at k1; cases k1
            have h1 := getNew i b' g1
            rw [gl i id hi] at h1
            exact ⟨_, h1, g2.unren⟩
          · by_cases hg : sl = true ∧ id ∈ pid
            · exact ⟨.gone, getGone id hg.2 hg.1, .gone _⟩
            · exact ⟨b, getOld id b hb hn (fun h1 h2 => hg ⟨h1, h2⟩) hin, .refl hn⟩
        have EM : Emb Y Z (fun i => some (backN l fresh i)) sl := by
          refine ⟨fun id i b hf hb => ?_, fun id i b hf hb => ?_, rfl, fun hs b hb => ?_⟩
          · simp only [Option.some.injEq] at hf; subst hf; exact getNew id b hb
          · simp only [Option.some.injEq] at hf; subst hf; exact ρNew id (List.getElem?_eq_some_iff.1 hb).1
          · show if sl = true then _ else _
            rw [if_pos hs]; exact hb
        refine hk Z u rfl (RS.emb EM (fun h => by rw [← hsl, h]; rfl) hru) ⟨fun id b hb => ?_, fun id id' b c c' h1 h2 h3 h4 h5 h6 => ?_, fun b hb => ?_⟩ WZ HZ
        · by_cases hl : b.live = true
          · rcases cs id b hb hl with ⟨i, b', g1, g2, rfl, rfl⟩ | ⟨g1, g2, g3⟩
            · refine RB.emb EM rfl g1 (fun h => ?_) (okY.blk i b' g1)
              rw [← hsl, Bool.or_eq_true]; right
              rw [List.any_eq_true]; exact ⟨b', List.mem_of_getElem? g1, h⟩
            · exact (at_.ok.blk id b g1).evo WZ HZ at_.ok.fo (ρOld id b g1 (live_not_free hl)) fun _ n hn => Wk n (at_.ok.lt ⟨id, b, g1, hl, hn⟩) fun id' hid' blk' k1 k2 k3 => g3 (at_.ok.inj id id' n b blk' g1 hl k1 k2 hn k3 ▸ hid')
          · cases b <;> first | trivial | (simp [Blk.live] at hl)
        · rcases cs id c h1 h2 with ⟨i, b1, g1, g2, rfl, rfl⟩ | ⟨g1, _, g3⟩
          · rw [ρNew i (List.getElem?_eq_some_iff.1 g1).1] at h5
            rcases cs id' c' h3 h4 with ⟨i', b2, k1, k2, rfl, rfl⟩ | ⟨k1, _, k3⟩
            · rw [ρNew i' (List.getElem?_eq_some_iff.1 k1).1] at h6
              rw [okY.inj i i' b b1 b2 g1 g2 k1 k2 h5 h6]
            · rw [ρOld id' c' k1 (live_not_free h4)] at h6
              obtain ⟨id2, m1, blk2, m2, m3, m4⟩ := yown b (at_.ok.lt ⟨id', c', k1, h4, h6⟩) ⟨i, b1, g1, g2, h5⟩
              exact absurd (at_.ok.inj id' id2 b c' blk2 k1 h4 m2 m3 h6 m4 ▸ m1) k3
          · rw [ρOld id c g1 (live_not_free h2)] at h5
            rcases cs id' c' h3 h4 with ⟨i', b2, k1, k2, rfl, rfl⟩ | ⟨k1, _⟩
            · rw [ρNew i' (List.getElem?_eq_some_iff.1 k1).1] at h6
              obtain ⟨id2, m1, blk2, m2, m3, m4⟩ := yown b (at_.ok.lt ⟨id, c, g1, h2, h5⟩) ⟨i', b2, k1, k2, h6⟩
              exact absurd (at_.ok.inj id id2 b c blk2 g1 h2 m2 m3 h5 m4 ▸ m1) g3
            · rw [ρOld id' c' k1 (live_not_free h4)] at h6
              exact at_.ok.inj id id' b c c' g1 h2 k1 h4 h5 h6
        · have hb : if sl = true then Y.F b else X.F b := hb
          split at hb
          · rename_i hs
            refine ⟨(okY.fo b hb).1, fun ho => ?_⟩
            rcases zown b ho with ⟨i, blk, g1, g2, g3⟩ | ⟨id, blk, g1, g2, g3, g4, g5⟩
            · exact (okY.fo b hb).2 ⟨i, blk, g1, g2, g3⟩
            · rcases W.fnew b hb with h1 | h1 | h1
              · rw [cF] at h1
                rcases h1 with h1 | ⟨id', hid, blk', h1, h2, h3⟩
                · exact (at_.ok.fo b h1).2 ⟨id, blk, g1, g2, g3⟩
                · exact g4 hs (at_.ok.inj id id' b blk blk' g1 g2 h1 h2 g3 h3 ▸ hid)
              · obtain ⟨id', k0, blk', k1, k2, k3⟩ := cown b h1
                exact g5 (at_.ok.inj id id' b blk blk' g1 g2 k1 k2 g3 k3 ▸ k0)
              · rw [csize] at h1
                have := at_.ok.lt ⟨id, blk, g1, g2, g3⟩
                omega
          · have hlt := (at_.ok.fo b hb).1
            refine ⟨Nat.lt_of_lt_of_le hlt (by rw [← csize]; exact W.size), fun ho => ?_⟩
            rcases zown b ho with ⟨i, blk, g1, g2, g3⟩ | ⟨id, blk, g1, g2, g3, g4⟩
            · obtain ⟨id, _, blk', k1, k2, k3⟩ := yown b hlt ⟨i, blk, g1, g2, g3⟩
              exact (at_.ok.fo b hb).2 ⟨id, blk', k1, k2, k3⟩
            · exact (at_.ok.fo b hb).2 ⟨id, blk, g1, g2, g3⟩
      obtain ⟨nx, w1, hrun, hcase⟩ := hap
      have hexec : (execOp a.eval o).run P X.w = .ok nx w1 := by
        simp only [execOp, ho, resolve, hc, Act.eval, Deferred.ofValue, Sem.run_bind, Sem.run_pure, Result.andThen_ok, invoke, Array.append_empty, Array.empty_append]
        exact hrun
      unfold Oper.wp
      rw [hexec]
      rcases hcase with ⟨u, rfl, hu⟩ | ⟨rfl, hcalls⟩
      · exact fin u w1 hu
      · exact hcalls.mono fun e w' ⟨u, he, hu⟩ => by subst he; exact fin u w' hu

end
end Go.Ev
end

section
/-
  EVERY OPERATION; REGIONS IN TEXT ORDER.
-/
namespace Go.Ev
variable {A : Type}

section
variable {P : Program} {E : Env A} (T : TyOK P E) (fns : FnsOK P E) {o : Oper} {ev : Operand → AV} {sub : List (Nat × Blk)} {fresh : Nat} {k : Cont A} {out : A}
include T fns

theorem opK_sound (hev : ∀ g, ev (.global g) = glv E.gl g) (h : opK E o ev sub fresh k = some out) : ∃ v l, k v l = some out ∧ OpSem P o ev sub fresh v l := by
  unfold opK at h
  split at h
  · rename_i x ho; exact move_sound T (.inl ho) h
  · rename_i x ho; exact move_sound T (.inr ho) h
  · rename_i c a b ho; exact pick_sound ho h
  · rename_i t ho; exact alloc_sound T ho h
  · rename_i t x ho; exact box_sound ho h
  · rename_i t ps ho; exact build_sound T ho h
  · rename_i t n ps ho; exact buildSlice_sound T ho h
  · rename_i t a ho; exact load_op_sound T ho h
  · rename_i t a x ho; exact store_sound T ho h
  · rename_i x ho; exact nilCheck_sound ho h
  · rename_i op t x y yt ho; exact bin_sound T ho h
  · rename_i op t x ho; exact un_sound ho h
  · rename_i s d x ho; exact convert_sound T ho h
  · rename_i t l c ho; exact makeSlice_sound T ho h
  · rename_i t r ho; exact makeMap_sound T h ho
  · rename_i t x lo hi ho; exact slice_sound T ho h
  · rename_i t x f ho; exact fieldAddr_sound T ho h
  · rename_i t x f ho; exact field_sound T ho h
  · rename_i t x ix ho; exact indexAddr_sound T ho h
  · rename_i t x ix ho; exact index_sound T ho h
  · rename_i t m x ok ho; exact lookup_sound T ho h
  · rename_i t m x y ho; exact mapUpdate_sound T (.inl ho) h
  · rename_i t m x y ho; exact mapUpdate_sound T (.inr ho) h
  · rename_i x i ho; exact extract_sound ho h
  · rename_i c ho
    split at h
    · rename_i f hc
      split at h
      · rename_i hsz; exact call_sound fns hev ho hc hsz h
      · cases h
    · rename_i hc
      split at h
      · rename_i x t ts ha ht; exact len_sound T ho hc ha ht h
      · cases h
    · rename_i hc
      split at h
      · rename_i s x t t' ha ht
        split at h
        · rename_i htt; subst htt
          exact append_sound T ho hc ha ht rfl h
        · cases h
      · cases h
    · rename_i hc
      split at h
      · rename_i d x t t' ha ht
        exact copy_sound T ho hc ha ht h
      · cases h
    · rename_i hc
      split at h
      · rename_i x r ha
        exact minmax_sound ho hc ha (.inl ⟨rfl, rfl⟩) h
      · cases h
    · rename_i hc
      split at h
      · rename_i x r ha
        exact minmax_sound ho hc ha (.inr ⟨rfl, rfl⟩) h
      · cases h
    · cases h
  · cases h
end

-- ------------------------------------------------------------ a region's operations, one behind the other

/-- An operation, in the state in which it is come to; 'on': its guard lets it. -/
structure Stp where
  o : Oper
  on : Bool
  s : St
  v : AV
  l : List (Nat × Blk)

def Stp.next (p : Stp) : St := if p.on then { (p.s.put p.o.dst p.v) with hp := asg p.s.hp p.l } else p.s.put p.o.dst (.tup [])
def Stp.fp (p : Stp) : FP := if p.on then ⟨(p.s.sub p.o).map (·.1), p.l.map (·.1)⟩ else ⟨[], []⟩

def GuardOK (ops : Array Oper) (o : Oper) (s : St) (on : Bool) : Prop :=
  match o.guard with
  | none => on = true
  | some (j, want) => ∃ g, (ops[j]?).bind (·.dst) = some g ∧ ((∃ b, s.tm[g]? = some (.p .bool b) ∧ on = decide (b = want)) ∨ (s.tm[g]? = some (.tup []) ∧ on = false))

inductive Chain (P : Program) (gl : GL) (ops : Array Oper) : List Oper → St → List Stp → St → Prop where
  | nil (s : St) : Chain P gl ops [] s [] s
  | cons {o : Oper} {r : List Oper} {s s' : St} {p : Stp} {ps : List Stp} (h1 : p.o = o) (h2 : p.s = s) (h3 : GuardOK ops o s p.on)
      (h4 : p.on = true → OpSem P o (St.ev gl s) (s.sub o) s.hp.length p.v p.l) (h5 : Chain P gl ops r p.next ps s') : Chain P gl ops (o :: r) s (p :: ps) s'

theorem chain_m {P : Program} {gl : GL} {ops : Array Oper} : ∀ {os : List Oper} {s s' : St} {ps : List Stp}, Chain P gl ops os s ps s' → s'.m = s.m
  | _, _, _, _, .nil s => rfl
  | _, _, _, _, @Chain.cons _ _ _ o r s s' p ps h1 h2 h3 h4 h5 => by
    subst h1; subst h2
    rw [chain_m h5]
    unfold Stp.next
    have e : ∀ v, (p.s.put p.o.dst v).m = p.s.m := fun v => by cases p.o.dst <;> rfl
    split <;> exact e _

theorem St.put_same {s : St} {g : Nat} {v : AV} (h : s.tm[g]? = some v) : s.put (some g) v = s := by
  obtain ⟨hl, hv⟩ := List.getElem?_eq_some_iff.1 h
  simp only [St.put]
  rw [← hv, List.set_getElem_self]

section
variable {P : Program} {E : Env A} (T : TyOK P E) (fns : FnsOK P E) {out : A}
include T fns

theorem opsK_sound {ops : Array Oper} : ∀ {os : List Oper} {s : St} {fps : List FP} {k : St → List FP → Option A}, opsK E ops os s fps k = some out →
    ∃ ps s', Chain P E.gl ops os s ps s' ∧ k s' ((ps.map Stp.fp).reverse ++ fps) = some out
  | [], s, fps, k, h => ⟨[], s, .nil s, by simpa [opsK] using h⟩
  | o :: r, s, fps, k, h => by
    simp only [opsK] at h
    have step : ∀ {on : Bool} (s : St), GuardOK ops o s true → execK E o s fps (fun s' fps' => opsK E ops r s' fps' k) = some out →
        ∃ ps s', Chain P E.gl ops (o :: r) s ps s' ∧ k s' ((ps.map Stp.fp).reverse ++ fps) = some out := fun {on} s hg h => by
      unfold execK at h
      obtain ⟨v, l, h, hs⟩ := opK_sound T fns (fun g => rfl) h
      obtain ⟨ps, s', hc, hk⟩ := opsK_sound h
      refine ⟨⟨o, true, s, v, l⟩ :: ps, s', .cons rfl rfl hg (fun _ => hs) hc, ?_⟩
      simpa [Stp.fp] using hk
    have skip : ∀ (s : St), GuardOK ops o s false → opsK E ops r (s.put o.dst (.tup [])) (⟨[], []⟩ :: fps) k = some out →
        ∃ ps s', Chain P E.gl ops (o :: r) s ps s' ∧ k s' ((ps.map Stp.fp).reverse ++ fps) = some out := fun s hg h => by
      obtain ⟨ps, s', hc, hk⟩ := opsK_sound h
      refine ⟨⟨o, false, s, .any, []⟩ :: ps, s', .cons rfl rfl hg (fun h => nomatch h) hc, ?_⟩
      simpa [Stp.fp] using hk
    split at h
    · rename_i hg
      exact step (on := true) s (by simp [GuardOK, hg]) h
    · rename_i j want hg
      split at h
      · cases h
      · rename_i g hgd
        split at h
        · rename_i b hb
          have key : (if b = want then execK E o (s.put (some g) (.p .bool b)) fps (fun s' fps' => opsK E ops r s' fps' k) else opsK E ops r ((s.put (some g) (.p .bool b)).put o.dst (.tup [])) (⟨[], []⟩ :: fps) k) = some out := by
            cases b <;> simpa using h
          rw [St.put_same hb] at key
          split at key
          · rename_i hbw
            exact step (on := true) s (by simp only [GuardOK, hg]; exact ⟨g, hgd, .inl ⟨b, hb, by simp [hbw]⟩⟩) key
          · rename_i hbw
            exact skip s (by simp only [GuardOK, hg]; exact ⟨g, hgd, .inl ⟨b, hb, by simp [hbw]⟩⟩) key
        · rename_i hb
          exact skip s (by simp only [GuardOK, hg]; exact ⟨g, hgd, .inr ⟨hb, trivial⟩⟩) h
        · cases h
end

-- ------------------------------------------------------------ in text order

theorem lookup_filterMap {hp : List Blk} : ∀ {l : List Nat} {id : Nat} {b : Blk}, (l.filterMap fun id => match hp[id]? with | some Blk.free => none | some b => some (id, b) | none => none).lookup id = some b → hp[id]? = some b ∧ b ≠ .free
  | [], _, _, h => by simp at h
  | i :: l, id, b, h => by
    rw [List.filterMap_cons] at h
    cases hi : hp[i]? with
    | none => rw [hi] at h; exact lookup_filterMap h
    | some c =>
      rw [hi] at h
      by_cases hc : c = .free
      · subst hc; exact lookup_filterMap h
      · have h : (((i, c) :: l.filterMap fun id => match hp[id]? with | some Blk.free => none | some b => some (id, b) | none => none) : List (Nat × Blk)).lookup id = some b := by
          cases c <;> first | exact h | exact absurd rfl hc
        simp only [List.lookup_cons] at h
        by_cases he : id = i
        · subst he; simp at h; rw [← h]; exact ⟨hi, hc⟩
        · rw [show (id == i) = false by simpa using he] at h; exact lookup_filterMap h

theorem St.sub_get {s : St} {o : Oper} {id : Nat} {b : Blk} (h : (s.sub o).lookup id = some b) : s.hp[id]? = some b := (lookup_filterMap h).1
theorem St.sub_free {s : St} {o : Oper} {id : Nat} {b : Blk} (h : (s.sub o).lookup id = some b) : b ≠ .free := (lookup_filterMap h).2

theorem Rel.put {gl : GL} {X : Cx} {s : St} {a : Act} (h : Rel gl X s a) {d : Option Tmp} {v : AV} {u : Value} (hr : RS X v u) : Rel gl X (s.put d v) (a.put d u) := by
  cases d with
  | none => exact h
  | some d =>
    refine ⟨h.glo, h.defers, by simp [St.put, Act.put, h.size], fun i av hi => ?_, h.hp, h.ok⟩
    simp only [St.put, Act.put] at hi ⊢
    by_cases hd : d = i
    · subst hd
      rw [List.getElem?_set] at hi
      simp only [if_true] at hi
      split at hi
      · rename_i hl
        cases hi
        refine ⟨u, ?_, hr⟩
        rw [Array.getElem?_setIfInBounds_self_of_lt (by rw [h.size]; exact hl)]
      · cases hi
    · rw [List.getElem?_set_ne hd] at hi
      rw [Array.getElem?_setIfInBounds_ne hd]
      exact h.tm i av hi

theorem Rel.step {gl : GL} {X Y : Cx} {s : St} {a : Act} {l : List (Nat × Blk)} (h : Rel gl X s a) (hp : Y.hp = asg X.hp l) (ok : Ok Y) (W : WEvo X Y) (H : HEvo X Y) : Rel gl Y { s with hp := asg s.hp l } a :=
  ⟨h.glo.evo W h.ok.fo, h.defers, h.size, fun i av hi => by obtain ⟨v, h1, h2⟩ := h.tm i av hi; exact ⟨v, h1, h2.evo W H h.ok.fo⟩, by rw [hp, h.hp], ok⟩

theorem RS.undef {X : Cx} : RS X (.tup []) undef := ⟨#[], rfl, .nil⟩

theorem GuardOK.wanted {gl : GL} {X : Cx} {ops : Array Oper} {o : Oper} {s : St} {on : Bool} {a : Act} (h : GuardOK ops o s on) (hr : Rel gl X s a) : Region.wanted o (yielded ops a.tmps) = on := by
  unfold GuardOK at h
  unfold Region.wanted
  cases hg : o.guard with
  | none => rw [hg] at h; exact h.symm
  | some q =>
    obtain ⟨j, want⟩ := q
    rw [hg] at h
    obtain ⟨g, h1, ⟨b, h2, h3⟩ | ⟨h2, h3⟩⟩ := h
    · obtain ⟨v, h4, h5⟩ := hr.tm g _ h2
      rw [RS.bool] at h5
      subst h5
      simp only [yielded, h1, Option.bind_some, h4, h3]
      cases b <;> cases want <;> rfl
    · obtain ⟨v, h4, us, h5, h6⟩ := hr.tm g _ h2
      subst h5
      simp only [yielded, h1, Option.bind_some, h4, h3]
      rfl

theorem chain_text {P : Program} {gl : GL} {ops : Array Oper} {Q : Exit → Act → World → Prop} : ∀ {os : List Oper} {s s' : St} {ps : List Stp}, Chain P gl ops os s ps s' → ∀ {i : Nat}, ops.toList.drop i = os → ∀ {X : Cx} {a : Act}, Rel gl X s a →
    (∀ (Y : Cx) (a' : Act), Rel gl Y s' a' → WEvo X Y → HEvo X Y → Q .normal a' Y.w) → wpOps P ops Q (List.range' i os.length) a X.w
  | _, _, _, _, .nil s, i, _, X, a, hr, hq => hq X a hr (.refl X) (.refl X)
  | _, _, _, _, @Chain.cons _ _ _ o r s s' p ps h1 h2 h3 h4 h5, i, hd, X, a, hr, hq => by
    subst h1; subst h2
    have hi : ops[i]? = some p.o := by
      have := congrArg (·[0]?) hd
      simpa using this
    have hd' : ops.toList.drop (i + 1) = r := by
      have := congrArg (List.drop 1) hd
      simpa [Nat.add_comm] using this
    rw [List.length_cons, List.range'_succ]
    simp only [wpOps, hi]
    rw [h3.wanted hr]
    cases hon : p.on with
    | false =>
      simp only [Bool.false_eq_true, if_false]
      have hn : p.next = p.s.put p.o.dst (.tup []) := by simp [Stp.next, hon]
      rw [hn] at h5
      exact chain_text h5 hd' (hr.put RS.undef) hq
    | true =>
      simp only [if_true]
      left
      refine (h4 hon).2 X a _ Q ⟨fun x _ => hr.ev x, hr.ok, hr.glo, fun id b hb => by rw [hr.hp]; exact St.sub_get hb⟩ (fun q _ hq => .inl ?_) fun Y u hp hu ok W H => ?_
      · rw [hr.hp]; exact List.getElem?_eq_none hq
      · have hn : p.next = { (p.s.put p.o.dst p.v) with hp := asg p.s.hp p.l } := by simp [Stp.next, hon]
        rw [hn] at h5
        have h6 := (hr.step hp ok W H).put (d := p.o.dst) hu
        refine chain_text h5 hd' (X := Y) (a := a.put p.o.dst u) ?_ fun Z a' hz WZ HZ => hq Z a' hz (W.trans WZ) (H.trans HZ)
        cases hdst : p.o.dst <;> rw [hdst] at h6 <;> exact h6

end Go.Ev
end

section
/-
  REGIONS WHOSE ORDER IS DRAWN: operations that do not wait for each other do not meet either.
-/
namespace Go.Ev

def Stp.act (p : Stp) (s : St) : St := if p.on then { (s.put p.o.dst p.v) with hp := asg s.hp p.l } else s.put p.o.dst (.tup [])

/-- The state behind some of the operations. -/
def app (S : Nat → Bool) : Nat → List Stp → St → St
  | _, [], s => s
  | i, p :: ps, s => app S (i + 1) ps (if S i then p.act s else s)

theorem Stp.next_act (p : Stp) : p.next = p.act p.s := rfl

theorem app_all {P : Program} {gl : GL} {ops : Array Oper} : ∀ {os : List Oper} {s s' : St} {ps : List Stp}, Chain P gl ops os s ps s' → ∀ i, app (fun _ => true) i ps s = s'
  | _, _, _, _, .nil s, _ => rfl
  | _, _, _, _, .cons h1 h2 h3 h4 h5, i => by
    subst h2
    simp only [app, if_true]
    exact app_all h5 (i + 1)

theorem app_none (S : Nat → Bool) : ∀ (ps : List Stp) (i : Nat) (s : St), (∀ k, i ≤ k → S k = false) → app S i ps s = s
  | [], _, _, _ => rfl
  | p :: ps, i, s, h => by
    simp only [app, h i (Nat.le_refl _), Bool.false_eq_true, if_false]
    exact app_none S ps (i + 1) s fun k hk => h k (by omega)

theorem chain_at {P : Program} {gl : GL} {ops : Array Oper} : ∀ {os : List Oper} {s s' : St} {ps : List Stp}, Chain P gl ops os s ps s' → ∀ (i j : Nat) (p : Stp), ps[j]? = some p →
    os[j]? = some p.o ∧ p.s = app (fun k => decide (k < i + j)) i ps s ∧ GuardOK ops p.o p.s p.on ∧ (p.on = true → OpSem P p.o (St.ev gl p.s) (p.s.sub p.o) p.s.hp.length p.v p.l)
  | _, _, _, _, .nil s, _, _, _, h => by simp at h
  | _, _, _, _, @Chain.cons _ _ _ o r s s' p ps h1 h2 h3 h4 h5, i, j, p', h => by
    subst h1; subst h2
    cases j with
    | zero =>
      simp at h; subst h
      refine ⟨rfl, ?_, h3, h4⟩
      exact (app_none _ _ i p.s fun k hk => by simp; omega).symm
    | succ j =>
      simp at h
      obtain ⟨g1, g2, g3, g4⟩ := chain_at h5 (i + 1) j p' h
      refine ⟨by simpa using g1, ?_, g3, g4⟩
      rw [g2]
      simp only [app, show i < i + (j + 1) by omega, decide_true, if_true, show i + 1 + j = i + (j + 1) by omega]
      rfl

theorem chain_len {P : Program} {gl : GL} {ops : Array Oper} : ∀ {os : List Oper} {s s' : St} {ps : List Stp}, Chain P gl ops os s ps s' → ps.length = os.length
  | _, _, _, _, .nil s => rfl
  | _, _, _, _, .cons h1 h2 h3 h4 h5 => by simp [chain_len h5]

-- ------------------------------------------------------------ places

def hget (hp : List Blk) (id : Nat) : Blk := (hp[id]?).getD .free

theorem hget_set (hp : List Blk) (id : Nat) (b : Blk) (j : Nat) : hget (hpSet hp id b) j = if j = id then b else hget hp j := by
  unfold hget
  rw [hpSet_get]
  split
  · rfl
  · split
    · rfl
    · rename_i h
      rw [List.getElem?_eq_none (by omega)]
      split <;> rfl

theorem hget_asg : ∀ (L : List (Nat × Blk)) (hp hp' : List Blk) (j : Nat), hget hp j = hget hp' j → hget (asg hp L) j = hget (asg hp' L) j
  | [], _, _, _, h => h
  | q :: L, hp, hp', j, h => hget_asg L _ _ j (by rw [hget_set, hget_set, h])

theorem hget_asg_out : ∀ (L : List (Nat × Blk)) (hp : List Blk) (j : Nat), (∀ q ∈ L, q.1 ≠ j) → hget (asg hp L) j = hget hp j
  | [], _, _, _ => rfl
  | q :: L, hp, j, h => by
    show hget (asg (hpSet hp q.1 q.2) L) j = _
    rw [hget_asg_out L _ j fun p hp => h p (by simp [hp]), hget_set, if_neg (Ne.symm (h q (by simp)))]

theorem hpSet_comm (hp : List Blk) {i j : Nat} (b c : Blk) (h : i ≠ j) : hpSet (hpSet hp i b) j c = hpSet (hpSet hp j c) i b := by
  have len : ∀ (hp : List Blk) (i : Nat) (b : Blk), (hpSet hp i b).length = max hp.length (i + 1) := fun hp i b => by
    unfold hpSet; split <;> simp <;> omega
  refine List.ext_getElem? fun k => ?_
  rw [hpSet_get, hpSet_get, hpSet_get, hpSet_get, len, len]
  by_cases h1 : k = j
  · subst h1
    rw [if_pos rfl, if_neg (Ne.symm h), if_pos rfl]
    rw [if_pos (by omega)]
  · by_cases h2 : k = i
    · subst h2
      rw [if_neg h1, if_pos rfl, if_pos rfl, if_pos (by omega)]
    · rw [if_neg h1, if_neg h2, if_neg h2, if_neg h1]
      repeat' split
      all_goals first | rfl | omega

theorem asg_hpSet_comm : ∀ (L : List (Nat × Blk)) (hp : List Blk) (i : Nat) (b : Blk), (∀ q ∈ L, q.1 ≠ i) → asg (hpSet hp i b) L = hpSet (asg hp L) i b
  | [], _, _, _, _ => rfl
  | q :: L, hp, i, b, h => by
    show asg (hpSet (hpSet hp i b) q.1 q.2) L = hpSet (asg (hpSet hp q.1 q.2) L) i b
    rw [hpSet_comm _ _ _ (Ne.symm (h q (by simp))), asg_hpSet_comm L _ i b fun p hp => h p (by simp [hp])]

theorem asg_comm : ∀ (L M : List (Nat × Blk)) (hp : List Blk), (∀ q ∈ L, ∀ p ∈ M, p.1 ≠ q.1) → asg (asg hp L) M = asg (asg hp M) L
  | [], _, _, _ => rfl
  | q :: L, M, hp, h => by
    show asg (asg (hpSet hp q.1 q.2) L) M = asg (hpSet (asg hp M) q.1 q.2) L
    rw [asg_comm L M _ fun q hq => h q (by simp [hq]), asg_hpSet_comm M hp _ _ fun p hp => h q (by simp) p hp]

theorem St.put_comm (s : St) {d e : Option Tmp} (v u : AV) (h : ∀ x, d = some x → e ≠ some x) : (s.put d v).put e u = (s.put e u).put d v := by
  cases d with
  | none => rfl
  | some d =>
    cases e with
    | none => rfl
    | some e =>
      have hne : d ≠ e := fun he => h d rfl (he ▸ rfl)
      simp only [St.put]
      rw [List.set_comm _ _ hne]

/-- What a step writes. -/
def Stp.wids (p : Stp) : List Nat := if p.on then p.l.map (·.1) else []

def setd (tm : List AV) (d : Option Tmp) (v : AV) : List AV := match d with | some d => tm.set d v | none => tm

theorem act_eq (p : Stp) (s : St) : p.act s = ⟨setd s.tm p.o.dst (if p.on then p.v else .tup []), if p.on then asg s.hp p.l else s.hp, s.m⟩ := by
  unfold Stp.act
  cases p.on <;> cases hd : p.o.dst <;> rfl

theorem setd_comm (tm : List AV) {d e : Option Tmp} (v u : AV) (h : ∀ x, d = some x → e ≠ some x) : setd (setd tm d v) e u = setd (setd tm e u) d v := by
  cases d with
  | none => rfl
  | some d =>
    cases e with
    | none => rfl
    | some e =>
      have hne : d ≠ e := fun he => h d rfl (he ▸ rfl)
      simp only [setd]
      rw [List.set_comm _ _ hne]

theorem act_comm {p q : Stp} (s : St) (h1 : ∀ d, p.o.dst = some d → q.o.dst ≠ some d) (h2 : ∀ i ∈ p.wids, i ∉ q.wids) : p.act (q.act s) = q.act (p.act s) := by
  rw [act_eq, act_eq, act_eq, act_eq]
  simp only
  rw [setd_comm s.tm (d := p.o.dst) (e := q.o.dst) _ _ h1]
  congr 1
  cases hpo : p.on <;> cases hqo : q.on <;> simp only [Bool.false_eq_true, if_false, if_true]
  refine asg_comm _ _ _ fun a ha b hb hab => ?_
  refine h2 b.1 ?_ ?_
  · simp only [Stp.wids, hpo, if_true, List.mem_map]; exact ⟨b, hb, rfl⟩
  · simp only [Stp.wids, hqo, if_true, List.mem_map]; exact ⟨a, ha, hab.symm⟩

theorem app_comm {q : Stp} {S : Nat → Bool} : ∀ (ps : List Stp) (i : Nat) (s : St), (∀ k p, ps[k]? = some p → S (i + k) = true → (∀ d, p.o.dst = some d → q.o.dst ≠ some d) ∧ ∀ x ∈ p.wids, x ∉ q.wids) →
    app S i ps (q.act s) = q.act (app S i ps s)
  | [], _, _, _ => rfl
  | p :: ps, i, s, h => by
    simp only [app]
    have ih := fun s => app_comm ps (i + 1) s fun k p' hk hs => h (k + 1) p' (by simpa using hk) (by rw [← hs]; congr 1; omega)
    cases hS : S i with
    | false => simp only [Bool.false_eq_true, if_false]; exact ih s
    | true =>
      simp only [if_true]
      obtain ⟨g1, g2⟩ := h 0 p (by simp) hS
      rw [act_comm s g1 g2]
      exact ih _

theorem app_add {S S' : Nat → Bool} : ∀ (ps : List Stp) (i j : Nat) (s : St) (q : Stp), ps[j]? = some q → S (i + j) = false → S' (i + j) = true → (∀ k, k ≠ i + j → S' k = S k) →
    (∀ k p, ps[k]? = some p → j < k → S (i + k) = true → (∀ d, p.o.dst = some d → q.o.dst ≠ some d) ∧ ∀ x ∈ p.wids, x ∉ q.wids) → app S' i ps s = q.act (app S i ps s)
  | [], _, _, _, _, h, _, _, _, _ => by simp at h
  | p :: ps, i, j, s, q, h, h1, h2, h3, h4 => by
    simp only [app]
    cases j with
    | zero =>
      simp at h; subst h
      simp only [Nat.add_zero] at h1 h2 h3
      simp only [h1, h2, if_true, Bool.false_eq_true, if_false]
      have e : ∀ (ps : List Stp) (k : Nat) (s : St), i < k → app S' k ps s = app S k ps s := fun ps => by
        induction ps with
        | nil => intro k s _; rfl
        | cons p ps ih => intro k s hk; simp only [app]; rw [h3 k (by omega), ih (k + 1) _ (by omega)]
      rw [e _ _ _ (Nat.lt_succ_self i)]
      exact app_comm ps (i + 1) s fun k p' hk hs => h4 (k + 1) p' (by simpa using hk) (by omega) (by rw [← hs]; congr 1; omega)
    | succ j =>
      simp at h
      rw [h3 i (by omega)]
      exact app_add ps (i + 1) j _ q h (by rw [← h1]; congr 1; omega) (by rw [← h2]; congr 1; omega) (fun k hk => h3 k (by omega))
        fun k p' hk hjk hs => h4 (k + 1) p' (by simpa using hk) (by omega) (by rw [← hs]; congr 1; omega)

theorem app_tm {S S' : Nat → Bool} {t : Nat} : ∀ (ps : List Stp) (i : Nat) (s s' : St), (∀ k p, ps[k]? = some p → p.o.dst = some t → S (i + k) = S' (i + k)) → s.tm[t]? = s'.tm[t]? → (app S i ps s).tm[t]? = (app S' i ps s').tm[t]?
  | [], _, _, _, _, h => h
  | p :: ps, i, s, s', h, hs => by
    simp only [app]
    refine app_tm ps (i + 1) _ _ (fun k p' hk hd => by have := h (k + 1) p' (by simpa using hk) hd; rw [show i + 1 + k = i + (k + 1) by omega]; exact this) ?_
    have one : ∀ (s : St), p.o.dst ≠ some t → (p.act s).tm[t]? = s.tm[t]? := fun s hd => by
      unfold Stp.act
      have e : ∀ v, (s.put p.o.dst v).tm[t]? = s.tm[t]? := fun v => by
        cases hdd : p.o.dst with
        | none => rfl
        | some d => simp only [St.put]; rw [List.getElem?_set_ne]; intro e; rw [hdd, e] at hd; exact hd rfl
      cases p.on <;> exact e _
    by_cases hd : p.o.dst = some t
    · have hS := h 0 p (by simp) hd
      simp only [Nat.add_zero] at hS
      rw [hS]
      cases S' i with
      | false => exact hs
      | true =>
        simp only [if_true]
        have hlt : t < s.tm.length ↔ t < s'.tm.length := by
          constructor
          · intro hl
            rw [List.getElem?_eq_getElem hl] at hs
            exact (List.getElem?_eq_some_iff.1 hs.symm).1
          · intro hl
            rw [List.getElem?_eq_getElem hl] at hs
            exact (List.getElem?_eq_some_iff.1 hs).1
        have e : ∀ v, (s.put p.o.dst v).tm[t]? = (s'.put p.o.dst v).tm[t]? := fun v => by
          simp only [hd, St.put, List.getElem?_set, if_true]
          by_cases hl : t < s.tm.length
          · rw [if_pos hl, if_pos (hlt.1 hl)]
          · rw [if_neg hl, if_neg (fun h => hl (hlt.2 h))]
        unfold Stp.act
        cases p.on <;> exact e _
    · have e1 : (if S i then p.act s else s).tm[t]? = s.tm[t]? := by split; exact one s hd; rfl
      have e2 : (if S' i then p.act s' else s').tm[t]? = s'.tm[t]? := by split; exact one s' hd; rfl
      rw [e1, e2]; exact hs

theorem act_hp (p : Stp) (s : St) : (p.act s).hp = if p.on then asg s.hp p.l else s.hp := by
  unfold Stp.act
  cases p.on
  · cases p.o.dst <;> rfl
  · rfl

theorem app_hp {S S' : Nat → Bool} {id : Nat} : ∀ (ps : List Stp) (i : Nat) (s s' : St), (∀ k p, ps[k]? = some p → id ∈ p.wids → S (i + k) = S' (i + k)) → hget s.hp id = hget s'.hp id → hget (app S i ps s).hp id = hget (app S' i ps s').hp id
  | [], _, _, _, _, h => h
  | p :: ps, i, s, s', h, hs => by
    simp only [app]
    refine app_hp ps (i + 1) _ _ (fun k p' hk hd => by have := h (k + 1) p' (by simpa using hk) hd; rw [show i + 1 + k = i + (k + 1) by omega]; exact this) ?_
    by_cases hd : id ∈ p.wids
    · have hS := h 0 p (by simp) hd
      simp only [Nat.add_zero] at hS
      rw [hS]
      cases S' i with
      | false => exact hs
      | true =>
        simp only [if_true, act_hp]
        cases p.on
        · exact hs
        · exact hget_asg _ _ _ _ hs
    · have one : ∀ (s : St), hget (p.act s).hp id = hget s.hp id := fun s => by
        rw [act_hp]
        cases hon : p.on
        · rfl
        · refine hget_asg_out _ _ _ fun q hq e => hd ?_
          simp only [Stp.wids, hon, if_true, List.mem_map]; exact ⟨q, hq, e⟩
      have e1 : hget (if S i then p.act s else s).hp id = hget s.hp id := by split; exact one s; rfl
      have e2 : hget (if S' i then p.act s' else s').hp id = hget s'.hp id := by split; exact one s'; rfl
      rw [e1, e2]; exact hs

end Go.Ev
end

section
/-
  REGIONS WHOSE ORDER IS DRAWN, MORE: every order comes to the state of the text's order.
-/
namespace Go.Ev
variable {A : Type}

-- ------------------------------------------------------------ who waits for whom

def waitOne (acc : List (List Nat)) (o : Oper) : List Nat :=
  o.held.foldl (fun l e => if l.contains e.on then l else l ++ e.on :: ((acc.getD e.on []).filter fun x => !l.contains x)) []

theorem waitOne_mem {acc : List (List Nat)} {o : Oper} {i : Nat} (h : i ∈ waitOne acc o) : ∃ e ∈ o.held, i = e.on ∨ i ∈ acc.getD e.on [] := by
  have key : ∀ (es : List Edge) (l : List Nat), i ∈ es.foldl (fun l e => if l.contains e.on then l else l ++ e.on :: ((acc.getD e.on []).filter fun x => !l.contains x)) l → i ∈ l ∨ ∃ e ∈ es, i = e.on ∨ i ∈ acc.getD e.on [] := by
    intro es
    induction es with
    | nil => intro l h; exact .inl h
    | cons e es ih =>
      intro l h
      rcases ih _ h with h | ⟨e', he', h⟩
      · simp only at h
        split at h
        · exact .inl h
        · rcases List.mem_append.1 h with h | h
          · exact .inl h
          · rcases List.mem_cons.1 h with h | h
            · exact .inr ⟨e, by simp, .inl h⟩
            · exact .inr ⟨e, by simp, .inr (List.mem_filter.1 h).1⟩
      · exact .inr ⟨e', by simp [he'], h⟩
  rcases key _ _ h with h | h
  · cases h
  · exact h

theorem waits_get : ∀ (os : List Oper) (acc : List (List Nat)), ∃ tl, os.foldl (fun acc o => acc ++ [waitOne acc o]) acc = acc ++ tl ∧ ∀ j o, os[j]? = some o → (acc ++ tl)[acc.length + j]? = some (waitOne ((acc ++ tl).take (acc.length + j)) o)
  | [], acc => ⟨[], by simp, by simp⟩
  | o :: os, acc => by
    obtain ⟨tl, h1, h2⟩ := waits_get os (acc ++ [waitOne acc o])
    refine ⟨waitOne acc o :: tl, by rw [List.foldl_cons, h1]; simp, fun j o' hj => ?_⟩
    cases j with
    | zero =>
      simp at hj; subst hj
      simp
    | succ j =>
      simp at hj
      have := h2 j o' hj
      simp only [List.append_assoc, List.cons_append, List.nil_append, List.length_append, List.length_cons, List.length_nil, Nat.zero_add] at this
      rw [show acc.length + (j + 1) = acc.length + 1 + j by omega]
      exact this

theorem waitsFor_mem {os : List Oper} {i j : Nat} {o : Oper} (hj : os[j]? = some o) (h : i ∈ (waitsFor os).getD j []) : ∃ e ∈ o.held, i = e.on ∨ i ∈ (waitsFor os).getD e.on [] := by
  obtain ⟨tl, h1, h2⟩ := waits_get os []
  have hW : waitsFor os = tl := by simpa [waitsFor, waitOne] using h1
  have h3 := h2 j o hj
  simp only [List.nil_append, List.length_nil, Nat.zero_add] at h3
  rw [hW] at h ⊢
  rw [List.getD_eq_getElem?_getD, h3] at h
  obtain ⟨e, he, h⟩ := waitOne_mem h
  refine ⟨e, he, h.imp id fun h => ?_⟩
  rw [List.getD_eq_getElem?_getD, List.getElem?_take] at h
  split at h
  · rw [List.getD_eq_getElem?_getD]; exact h
  · simp at h

theorem closed_waits {os : List Oper} {S : Nat → Bool} (hb : ∀ (j : Nat) (o : Oper), os[j]? = some o → ∀ e ∈ o.held, e.on < j) (hc : ∀ (j : Nat) (o : Oper), os[j]? = some o → S j = true → ∀ e ∈ o.held, S e.on = true) :
    ∀ (j : Nat), S j = true → ∀ i ∈ (waitsFor os).getD j [], S i = true := by
  intro j
  induction j using Nat.strongRecOn with
  | _ j ih =>
    intro hj i hi
    cases ho : os[j]? with
    | none =>
      obtain ⟨tl, h1, h2⟩ := waits_get os []
      have hW : waitsFor os = tl := by simpa [waitsFor, waitOne] using h1
      have hlen : tl.length = os.length := by
        have : ∀ (os : List Oper) (acc : List (List Nat)), (os.foldl (fun acc o => acc ++ [waitOne acc o]) acc).length = acc.length + os.length := fun os => by
          induction os with
          | nil => intro acc; rfl
          | cons o os ih => intro acc; rw [List.foldl_cons, ih]; simp; omega
        have := this os []
        rw [h1] at this; simpa using this
      rw [hW, List.getD_eq_getElem?_getD, List.getElem?_eq_none (by rw [hlen]; exact List.getElem?_eq_none_iff.1 ho)] at hi
      simp at hi
    | some o =>
      obtain ⟨e, he, h⟩ := waitsFor_mem ho hi
      have hS := hc j o ho hj e he
      rcases h with rfl | h
      · exact hS
      · exact ih e.on (hb j o ho e he) hS i h

theorem disjointB_spec {a b : List Nat} (h : disjointB a b = true) : ∀ x ∈ a, x ∉ b := fun x hx hb => by
  simp only [disjointB, List.all_eq_true, Bool.not_eq_true'] at h
  have := h x hx
  simp [hb] at this

structure Indep (ops : Array Oper) (ps : List Stp) : Prop where
  before : ∀ (j : Nat) (o : Oper), ops.toList[j]? = some o → ∀ e ∈ o.held, e.on < j
  pair : ∀ i j oi oj pi pj, i < j → ops.toList[i]? = some oi → ops.toList[j]? = some oj → ps[i]? = some pi → ps[j]? = some pj → i ∈ (waitsFor ops.toList).getD j [] ∨
    (oi.apart ops oj = true ∧ (∀ x ∈ pi.fp.w, x ∉ pj.fp.r ++ pj.fp.w) ∧ ∀ x ∈ pj.fp.w, x ∉ pi.fp.r)

theorem indepB_spec {ops : Array Oper} {ps : List Stp} (h : indepB ops (ps.map Stp.fp) = true) (hl : ps.length = ops.size) : Indep ops ps := by
  simp only [indepB, Bool.and_eq_true, List.all_eq_true, List.mem_range] at h
  obtain ⟨_, h⟩ := h
  have base : ∀ j o p, ops.toList[j]? = some o → ps[j]? = some p → (∀ e ∈ o.held, e.on < j) ∧ ∀ i, i < j → (((waitsFor ops.toList).getD j []).contains i || match ops[i]?, (ps.map Stp.fp)[i]? with
        | some oi, some fi => oi.apart ops o && disjointB fi.w (p.fp.r ++ p.fp.w) && disjointB p.fp.w fi.r
        | _, _ => false) = true := fun j o p hj hp => by
    have hlt : j < ops.size := by have := (List.getElem?_eq_some_iff.1 hj).1; simpa using this
    have := h j hlt
    have e1 : ops[j]? = some o := by rw [← Array.getElem?_toList]; exact hj
    have e2 : (ps.map Stp.fp)[j]? = some p.fp := by rw [List.getElem?_map, hp]; rfl
    rw [e1, e2] at this
    simp only [Bool.and_eq_true, List.all_eq_true, List.mem_range, decide_eq_true_eq] at this
    exact this
  refine ⟨fun j o hj e he => ?_, fun i j oi oj pi pj hij hi hj hpi hpj => ?_⟩
  · obtain ⟨p, hp⟩ : ∃ p, ps[j]? = some p := by
      have hlt : j < ps.length := by rw [hl]; have := (List.getElem?_eq_some_iff.1 hj).1; simpa using this
      exact ⟨ps[j], List.getElem?_eq_getElem hlt⟩
    exact (base j o p hj hp).1 e he
  · have := (base j oj pj hj hpj).2 i hij
    have e1 : ops[i]? = some oi := by rw [← Array.getElem?_toList]; exact hi
    have e2 : (ps.map Stp.fp)[i]? = some pi.fp := by rw [List.getElem?_map, hpi]; rfl
    rw [e1, e2] at this
    simp only [Bool.or_eq_true, Bool.and_eq_true] at this
    rcases this with h1 | h1
    · exact .inl (by simpa using h1)
    · exact .inr ⟨h1.1.1, disjointB_spec h1.1.2, disjointB_spec h1.2⟩

theorem fp_w (p : Stp) : p.fp.w = p.wids := by unfold Stp.fp Stp.wids; cases p.on <;> rfl

/-- The operations behind 'S', and one that is ready: who writes what it looks at. -/
structure Fresh (ops : Array Oper) (ps : List Stp) (S : Nat → Bool) (j : Nat) (pj : Stp) : Prop where
  looks : ∀ k pk t, ps[k]? = some pk → pk.o.dst = some t → t ∈ pj.o.looksAt ops → S k = decide (k < j)
  blocks : ∀ k pk x, ps[k]? = some pk → x ∈ pk.wids → x ∈ pj.fp.r ++ pj.fp.w → S k = decide (k < j)
  later : ∀ k pk, ps[k]? = some pk → j < k → S k = true → (∀ d, pk.o.dst = some d → pj.o.dst ≠ some d) ∧ ∀ x ∈ pk.wids, x ∉ pj.wids

theorem fresh_of {ops : Array Oper} {ps : List Stp} (I : Indep ops ps) (hops : ∀ (k : Nat) (p : Stp), ps[k]? = some p → ops.toList[k]? = some p.o) {S : Nat → Bool}
    (hc : ∀ (j : Nat) (o : Oper), ops.toList[j]? = some o → S j = true → ∀ e ∈ o.held, S e.on = true) {j : Nat} {pj : Stp} (hj : ps[j]? = some pj) (hS : S j = false) (hr : ∀ e ∈ pj.o.held, S e.on = true) : Fresh ops ps S j pj := by
  have hcl := closed_waits (fun j o hj e he => I.before j o hj e he) hc
  have waitsIn : ∀ k, k ∈ (waitsFor ops.toList).getD j [] → S k = true := fun k hk => by
    obtain ⟨e, he, h⟩ := waitsFor_mem (hops j pj hj) hk
    rcases h with rfl | h
    · exact hr e he
    · exact hcl e.on (hr e he) k h
  have notIn : ∀ k, S k = true → j ∉ (waitsFor ops.toList).getD k [] := fun k hk hjk => by
    have := hcl k hk j hjk; rw [hS] at this; cases this
  have before : ∀ k pk, ps[k]? = some pk → k < j → S k = true ∨ (pk.o.apart ops pj.o = true ∧ (∀ x ∈ pk.wids, x ∉ pj.fp.r ++ pj.fp.w)) := fun k pk hk hkj => by
    rcases I.pair k j _ _ pk pj hkj (hops k pk hk) (hops j pj hj) hk hj with h | ⟨h1, h2, _⟩
    · exact .inl (waitsIn k h)
    · exact .inr ⟨h1, by rw [← fp_w]; exact h2⟩
  have behind : ∀ k pk, ps[k]? = some pk → j < k → S k = false ∨ (pj.o.apart ops pk.o = true ∧ (∀ x ∈ pj.wids, x ∉ pk.fp.r ++ pk.wids) ∧ ∀ x ∈ pk.wids, x ∉ pj.fp.r) := fun k pk hk hjk => by
    rcases I.pair j k _ _ pj pk hjk (hops j pj hj) (hops k pk hk) hj hk with h | ⟨h1, h2, h3⟩
    · left
      cases hSk : S k with
      | false => rfl
      | true => exact absurd h (notIn k hSk)
    · refine .inr ⟨h1, ?_, ?_⟩
      · rw [← fp_w, ← fp_w pk]; exact h2
      · rw [← fp_w]; exact h3
  refine ⟨fun k pk t hk ht hl => ?_, fun k pk x hk hx hl => ?_, fun k pk hk hjk hSk => ?_⟩
  · rcases Nat.lt_trichotomy k j with h | h | h
    · rcases before k pk hk h with h1 | ⟨h1, _⟩
      · simp [h1, h]
      · exact absurd hl ((Oper.apart_spec h1).1 t ht)
    · subst h; simp [hS]
    · rcases behind k pk hk h with h1 | ⟨h1, _⟩
      · simp [h1]; omega
      · exact absurd hl ((Oper.apart_spec h1).2.2 t ht)
  · rcases Nat.lt_trichotomy k j with h | h | h
    · rcases before k pk hk h with h1 | ⟨_, h1⟩
      · simp [h1, h]
      · exact absurd hl (h1 x hx)
    · subst h; simp [hS]
    · rcases behind k pk hk h with h1 | ⟨_, h1, h2⟩
      · simp [h1]; omega
      · rcases List.mem_append.1 hl with hl | hl
        · exact absurd hl (h2 x hx)
        · rw [fp_w] at hl
          exact absurd (List.mem_append.2 (.inr hx)) (h1 x hl)
  · rcases behind k pk hk hjk with h1 | ⟨h1, h2, _⟩
    · rw [h1] at hSk; cases hSk
    · exact ⟨fun d hd hd' => (Oper.apart_spec h1).2.1 d hd' hd, fun x hx hx' => h2 x hx' (List.mem_append.2 (.inr hx))⟩

end Go.Ev
end

section
/-
  REGIONS: both kinds.
-/
namespace Go.Ev
variable {A : Type}

theorem filter_lt {α : Type} {p q : α → Bool} : ∀ {l : List α}, (∀ x ∈ l, q x = true → p x = true) → ∀ x0 ∈ l, p x0 = true → q x0 = false → (l.filter q).length < (l.filter p).length
  | [], _, _, h, _, _ => by cases h
  | x :: l, h, x0, h0, hp, hq => by
    have le : (l.filter q).length ≤ (l.filter p).length := by
      have : ∀ l : List α, (∀ x ∈ l, q x = true → p x = true) → (l.filter q).length ≤ (l.filter p).length := fun l => by
        induction l with
        | nil => intro _; simp
        | cons y l ih =>
          intro h
          have ih := ih fun x hx => h x (by simp [hx])
          rw [List.filter_cons, List.filter_cons]
          cases hq : q y with
          | true => rw [h y (by simp) hq]; simpa using ih
          | false => cases p y <;> simp <;> omega
      exact this l fun x hx => h x (by simp [hx])
    rw [List.filter_cons, List.filter_cons]
    rcases List.mem_cons.1 h0 with rfl | h0
    · rw [hp, hq]; simp; omega
    · have ih := filter_lt (fun x hx => h x (by simp [hx])) x0 h0 hp hq
      cases hqx : q x with
      | true => rw [h x (by simp) hqx]; simpa using ih
      | false => cases p x <;> simp <;> omega

theorem app_same {S S' : Nat → Bool} : ∀ (ps : List Stp) (i : Nat) (s : St), (∀ k, k < ps.length → S (i + k) = S' (i + k)) → app S i ps s = app S' i ps s
  | [], _, _, _ => rfl
  | p :: ps, i, s, h => by
    simp only [app]
    have h0 := h 0 (by simp)
    simp only [Nat.add_zero] at h0
    rw [h0]
    exact app_same ps (i + 1) _ fun k hk => by have := h (k + 1) (by simpa using hk); rw [show i + 1 + k = i + (k + 1) by omega]; exact this

theorem ready_mem {ops : Array Oper} {listed : Array Bool} {i : Nat} : i ∈ Region.ready .any ops listed ↔ i < ops.size ∧ listed.getD i true = false ∧ ∃ o, ops[i]? = some o ∧ ∀ e ∈ o.after.toList, Region.binds .any e = true → listed.getD e.on false = true := by
  unfold Region.ready
  simp only [List.mem_filter, List.mem_range, Bool.and_eq_true, Bool.not_eq_true']
  constructor
  · rintro ⟨h1, h2, h3⟩
    refine ⟨h1, h2, ?_⟩
    obtain ⟨o, ho⟩ : ∃ o, ops[i]? = some o := ⟨ops[i], Array.getElem?_eq_getElem h1⟩
    refine ⟨o, ho, fun e he hb => ?_⟩
    rw [ho] at h3
    simp only [Option.map_some, Option.getD_some, Array.all_eq_true_iff_forall_mem, Bool.or_eq_true, Bool.not_eq_true'] at h3
    rcases h3 e (Array.mem_toList_iff.1 he) with h | h
    · rw [hb] at h; cases h
    · exact h
  · rintro ⟨h1, h2, o, ho, h3⟩
    refine ⟨h1, h2, ?_⟩
    rw [ho]
    simp only [Option.map_some, Option.getD_some, Array.all_eq_true_iff_forall_mem, Bool.or_eq_true, Bool.not_eq_true']
    intro e he
    cases hb : Region.binds .any e with
    | false => exact .inl rfl
    | true => exact .inr (h3 e (Array.mem_toList_iff.2 he) hb)

theorem hget_of {hp : List Blk} {id : Nat} {b : Blk} (h : hp[id]? = some b) : hget hp id = b := by simp [hget, h]
theorem hget_some {hp : List Blk} {id : Nat} {b : Blk} (h : hget hp id = b) (hn : b ≠ .free) : hp[id]? = some b := by
  unfold hget at h
  cases hh : hp[id]? with
  | none => rw [hh] at h; simp at h; exact absurd h.symm hn
  | some c => rw [hh] at h; simp at h; rw [h]

theorem chain_any {P : Program} {gl : GL} {ops : Array Oper} {Q : Exit → Act → World → Prop} {s s' : St} {ps : List Stp} (hc : Chain P gl ops ops.toList s ps s') (I : Indep ops ps) :
    ∀ (fuel : Nat) (listed : Array Bool) (X : Cx) (a : Act), listed.size = ops.size →
    (∀ (j : Nat) (o : Oper), ops.toList[j]? = some o → listed.getD j true = true → ∀ e ∈ o.held, listed.getD e.on true = true) →
    ((List.range ops.size).filter fun i => !listed.getD i true).length ≤ fuel → Rel gl X (app (fun i => listed.getD i true) 0 ps s) a →
    (∀ (Y : Cx) (a' : Act), Rel gl Y s' a' → WEvo X Y → HEvo X Y → Q .normal a' Y.w) → wpAny P .any ops Q fuel listed a X.w := by
  have hlen : ps.length = ops.size := by rw [chain_len hc]; simp
  have done : ∀ (listed : Array Bool), ((List.range ops.size).filter fun i => !listed.getD i true) = [] → app (fun i => listed.getD i true) 0 ps s = s' := fun listed h => by
    rw [← app_all hc 0]
    refine app_same ps 0 s fun k hk => ?_
    rw [Nat.zero_add]
    by_cases hlt : k < ops.size
    · have : k ∉ (List.range ops.size).filter fun i => !listed.getD i true := by rw [h]; simp
      simp only [List.mem_filter, List.mem_range, hlt, true_and, Bool.not_eq_true', Bool.not_eq_false] at this
      exact this
    · omega
  have noReady : ∀ (listed : Array Bool), listed.size = ops.size → Region.ready .any ops listed = [] → ((List.range ops.size).filter fun i => !listed.getD i true) = [] := fun listed hsz hr => by
    have all : ∀ j, j < ops.size → listed.getD j true = true := by
      intro j
      induction j using Nat.strongRecOn with
      | _ j ih =>
        intro hj
        cases hl : listed.getD j true with
        | true => rfl
        | false =>
          obtain ⟨o, ho⟩ : ∃ o, ops[j]? = some o := ⟨ops[j], Array.getElem?_eq_getElem hj⟩
          have : j ∈ Region.ready .any ops listed := ready_mem.2 ⟨hj, hl, o, ho, fun e he hb => by
            have hlt := I.before j o (by rw [Array.getElem?_toList]; exact ho) e (List.mem_filter.2 ⟨he, hb⟩)
            have := ih e.on hlt (by omega)
            have he' : e.on < listed.size := by omega
            simp only [Array.getD, he', dif_pos] at this ⊢
            exact this⟩
          rw [hr] at this; cases this
    rw [List.filter_eq_nil_iff]
    intro j hj
    simp [all j (by simpa using hj)]
  intro fuel
  induction fuel with
  | zero =>
    intro listed X a hsz hcl hf hr hq
    have h0 := List.eq_nil_of_length_eq_zero (Nat.le_zero.1 hf)
    refine ⟨?_, ?_⟩
    · cases hrd : Region.ready .any ops listed with
      | nil => rfl
      | cons i is =>
        have hi : i ∈ Region.ready .any ops listed := by rw [hrd]; simp
        obtain ⟨h1, h2, _⟩ := ready_mem.1 hi
        have : i ∈ (List.range ops.size).filter fun i => !listed.getD i true := by
          rw [List.mem_filter]; exact ⟨by simpa using h1, by rw [h2]; rfl⟩
        rw [h0] at this; cases this
    · rw [done listed h0] at hr
      exact hq X a hr (.refl X) (.refl X)
  | succ fuel ih =>
    intro listed X a hsz hcl hf hr hq
    refine ⟨fun hrd => ?_, fun j hj => ?_⟩
    · rw [done listed (noReady listed hsz hrd)] at hr
      exact hq X a hr (.refl X) (.refl X)
    · obtain ⟨hlt, hSj, o, ho, haft⟩ := ready_mem.1 hj
      have hot : ops.toList[j]? = some o := by rw [Array.getElem?_toList]; exact ho
      obtain ⟨p, hp⟩ : ∃ p, ps[j]? = some p := ⟨ps[j]'(by omega), List.getElem?_eq_getElem _⟩
      obtain ⟨g1, g2, g3, g4⟩ := chain_at hc 0 j p hp
      rw [hot] at g1
      simp only [Option.some.injEq] at g1
      subst g1
      rw [Nat.zero_add] at g2
      have haft' : ∀ e ∈ p.o.held, listed.getD e.on true = true := fun e he => by
        have h1 := I.before j p.o hot e he
        have h2 := haft e (List.mem_filter.1 he).1 (List.mem_filter.1 he).2
        have he' : e.on < listed.size := by omega
        simp only [Array.getD, he', dif_pos] at h2 ⊢
        exact h2
      have hops : ∀ (k : Nat) (p : Stp), ps[k]? = some p → ops.toList[k]? = some p.o := fun k p hk => (chain_at hc 0 k p hk).1
      have FR := fresh_of I hops (S := fun i => listed.getD i true) hcl hp hSj haft'
      generalize hcur : app (fun i => listed.getD i true) 0 ps s = cur at hr
      -- the slots that it looks at
      have tmEq : ∀ t, t ∈ p.o.looksAt ops → cur.tm[t]? = p.s.tm[t]? := fun t ht => by
        rw [← hcur, g2]
        exact app_tm ps 0 s s (fun k pk hk hd => by rw [Nat.zero_add]; exact FR.looks k pk t hk hd ht) rfl
      have hpEq : ∀ id, id ∈ p.fp.r ++ p.fp.w → hget cur.hp id = hget p.s.hp id := fun id hid => by
        rw [← hcur]
        conv => rhs; rw [g2]
        exact app_hp ps 0 s s (fun k pk hk hd => by rw [Nat.zero_add]; exact FR.blocks k pk id hk hd hid) rfl
      have evEq : ∀ x ∈ p.o.op.operands, St.ev gl cur x = St.ev gl p.s x := fun x hx => by
        cases x with
        | tmp t =>
          have : t ∈ p.o.looksAt ops := by
            simp only [Oper.looksAt, List.mem_append, List.mem_filterMap]
            exact .inl ⟨.tmp t, Array.mem_toList_iff.2 hx, rfl⟩
          simp only [St.ev, List.getD_eq_getElem?_getD, tmEq t this]
        | _ => rfl
      have guard : GuardOK ops p.o cur p.on := by
        unfold GuardOK at g3 ⊢
        cases hg : p.o.guard with
        | none => rw [hg] at g3; exact g3
        | some q =>
          obtain ⟨gj, want⟩ := q
          rw [hg] at g3
          obtain ⟨g, h1, h2⟩ := g3
          refine ⟨g, h1, ?_⟩
          rw [tmEq g]
          · exact h2
          · simp only [Oper.looksAt, hg, h1, List.mem_append]
            exact .inr (by simp)
      -- behind it
      have next : app (fun i => (listed.setIfInBounds j true).getD i true) 0 ps s = p.act cur := by
        rw [← hcur]
        refine app_add ps 0 j s p hp (by rw [Nat.zero_add]; exact hSj) ?_ (fun k hk => ?_) fun k pk hk hjk hS => ?_
        · rw [Nat.zero_add]
          simp [Array.getD, hsz, hlt]
        · rw [Nat.zero_add] at hk
          by_cases hkl : k < listed.size
          · simp [Array.getD, hkl, Ne.symm hk]
          · simp [Array.getD, hkl]
        · rw [Nat.zero_add] at hS
          exact FR.later k pk hk hjk hS
      have count : ((List.range ops.size).filter fun i => !(listed.setIfInBounds j true).getD i true).length ≤ fuel := by
        have := filter_lt (l := List.range ops.size) (p := fun i => !listed.getD i true) (q := fun i => !(listed.setIfInBounds j true).getD i true) (fun x hx hq => by
          have hx : x < listed.size := by rw [hsz]; simpa using hx
          by_cases hxj : j = x
          · subst hxj; simp only [hSj]; rfl
          · simpa [Array.getD, hx, hxj] using hq) j (by simpa using hlt) (by rw [hSj]; rfl) (by simp [Array.getD, hsz, hlt])
        omega
      have closed : ∀ (k : Nat) (o : Oper), ops.toList[k]? = some o → (listed.setIfInBounds j true).getD k true = true → ∀ e ∈ o.held, (listed.setIfInBounds j true).getD e.on true = true := fun k o' hk hl e he => by
        have mono : ∀ i, listed.getD i true = true → (listed.setIfInBounds j true).getD i true = true := fun i hi => by
          by_cases hil : i < listed.size
          · by_cases hij : j = i
            · subst hij; simp [Array.getD, hil]
            · simpa [Array.getD, hil, hij] using hi
          · simp [Array.getD, hil]
        refine mono _ ?_
        by_cases hkj : k = j
        · subst hkj; rw [hot] at hk; cases hk; exact haft' e he
        · refine hcl k o' hk ?_ e he
          by_cases hkl : k < listed.size
          · simpa [Array.getD, hkl, Ne.symm hkj] using hl
          · simp [Array.getD, hkl]
      unfold wpOp
      rw [ho]
      simp only
      rw [guard.wanted hr]
      cases hon : p.on with
      | false =>
        simp only [Bool.false_eq_true, if_false]
        refine ih _ X _ (by simpa using hsz) closed count ?_ hq
        rw [next, act_eq, hon]
        have := hr.put (d := p.o.dst) RS.undef
        cases hd : p.o.dst <;> rw [hd] at this <;> exact this
      | true =>
        simp only [if_true]
        left
        have fpr : p.fp.r = (p.s.sub p.o).map (·.1) := by simp [Stp.fp, hon]
        have fpw : p.fp.w = p.l.map (·.1) := by simp [Stp.fp, hon]
        refine (g4 hon).2 X a _ Q ⟨fun x hx => by rw [← evEq x hx]; exact hr.ev x, hr.ok, hr.glo, fun id b hb => ?_⟩ (fun q hq hge => ?_) fun Y u hpY hu ok W H => ?_
        · have hmem : id ∈ p.fp.r := by
            rw [fpr, List.mem_map]
            obtain ⟨l1, l2, h1, _⟩ := List.lookup_eq_some_iff.1 hb
            exact ⟨(id, b), by rw [h1]; simp, rfl⟩
          have := hpEq id (List.mem_append.2 (.inl hmem))
          rw [hget_of (St.sub_get hb)] at this
          rw [hr.hp]
          exact hget_some this (St.sub_free hb)
        · have hmem : q.1 ∈ p.fp.w := by rw [fpw, List.mem_map]; exact ⟨q, hq, rfl⟩
          have := hpEq q.1 (List.mem_append.2 (.inr hmem))
          have hn : hget p.s.hp q.1 = .free := by simp [hget, List.getElem?_eq_none hge]
          rw [hn] at this
          unfold Cx.unused
          rw [hr.hp]
          unfold hget at this
          cases hh : cur.hp[q.1]? with
          | none => exact .inl rfl
          | some c => rw [hh] at this; simp at this; rw [this]; exact .inr rfl
        · have h6 := (hr.step hpY ok W H).put (d := p.o.dst) hu
          refine ih _ Y _ (by simpa using hsz) closed count ?_ fun Z a' hz WZ HZ => hq Z a' hz (W.trans WZ) (H.trans HZ)
          rw [next, act_eq, hon]
          cases hd : p.o.dst <;> rw [hd] at h6 <;> exact h6

end Go.Ev
end

section
/-
  CODE: states numbered anew, loops, results.
-/
namespace Go.Ev
variable {A : Type}

theorem take_range {l : List Nat} {m : Nat} (h : (l.take m == List.range m) = true) {i : Nat} (hi : i < m) : l[i]? = some i := by
  have h := eq_of_beq h
  have := congrArg (fun l : List Nat => l[i]?) h
  simpa [List.getElem?_take, hi] using this

theorem Emb.pevo {X Z : Cx} {l : List Nat} {sl : Bool} {m : Nat} (E : Emb X Z (pos l) sl) (hl : l.Nodup) (h : (l.take m == List.range m) = true) : PEvo m X Z := by
  have key : ∀ i, i < m → pos l i = some i := fun i hi => pos_of hl (take_range h hi)
  refine ⟨fun id b hm hb hn => ⟨_, E.hp id id b (key id hm) hb, ?_⟩, fun id b hm hb _ => E.ρ id id b (key id hm) hb⟩
  cases b with
  | var t K v => exact .var ..
  | row e K xs => exact .row _ _ _ _ rfl
  | map KK KV es => exact .map ..
  | gone => exact .gone _
  | free => exact absurd rfl hn

theorem canon_sound {gl : GL} {X : Cx} {s : St} {a : Act} (h : Rel gl X s a) (dead : List Nat) (hk : ((canonL dead s).take s.m == List.range s.m) = true) : ∃ Z : Cx, Z.w = X.w ∧ WEvo X Z ∧ PEvo s.m X Z ∧ Rel gl Z (canon dead s) a := by
  have hnd : (canonL dead s).Nodup := closure_nodup _ _ _ _ (by simp)
  obtain ⟨Z, h1, h2, h3, h4, h5, h6⟩ := renumber h.hp h.ok (l := canonL dead s) hnd (G := []) (by simp)
  refine ⟨Z, h1, h5, h6.pevo hnd hk, h.glo.evo h5 h.ok.fo, h.defers, by simp [canon, canonTm, h.size], fun i av hi => ?_, h2, h4⟩
  simp only [canon, canonTm, List.getElem?_map, Option.map_eq_some_iff] at hi
  obtain ⟨v, ⟨q, hq, rfl⟩, rfl⟩ := hi
  rw [List.getElem?_zipIdx, Option.map_eq_some_iff] at hq
  obtain ⟨v0, hv0, rfl⟩ := hq
  obtain ⟨u, g1, g2⟩ := h.tm i v0 hv0
  refine ⟨u, g1, ?_⟩
  simp only
  split
  · exact RS.any _
  · exact RS.emb h6 (fun _ => rfl) g2

theorem canonK_sound {A : Type} {dead : List Nat} {s : St} {k : St → Option A} {out : A} (h : canonK dead s k = some out) : k (canon dead s) = some out ∧ ((canonL dead s).take s.m == List.range s.m) = true := by
  unfold canonK at h
  cases hb : (canonL dead s).take s.m == List.range s.m with
  | true => rw [hb] at h; exact ⟨h, rfl⟩
  | false => rw [hb] at h; cases h

-- ------------------------------------------------------------ code

def Ex.out : Ex → Exit
  | .normal => .normal
  | .exit id => .exit id
  | .ret => .ret

def CSem (P : Program) (gl : GL) (c : Code) (s : St) (x : Ex) (s' : St) : Prop :=
  s'.m = s.m ∧ ∀ (X : Cx) (a : Act) (Q : Exit → Act → World → Prop), Rel gl X s a → (∀ (Y : Cx) (a' : Act), WEvo X Y → PEvo s.m X Y → Rel gl Y s' a' → Q x.out a' Y.w) → c.wp P Q a X.w

def RSem (P : Program) (gl : GL) (c : Code) (n : Nat) (s : St) (x : Ex) (s' : St) : Prop :=
  s'.m = s.m ∧ ∀ (X : Cx) (a : Act) (Q : Exit → Act → World → Prop), Rel gl X s a → (∀ (Y : Cx) (a' : Act), WEvo X Y → PEvo s.m X Y → Rel gl Y s' a' → Q x.out a' Y.w) → Code.rounds P c Q n a X.w

theorem drew_sound {gl : GL} {X : Cx} {s : St} {a : Act} (h : Rel gl X s a) : ∃ Z : Cx, Z.w = { X.w with drawn := X.w.drawn + 1 } ∧ WEvo X Z ∧ HEvo X Z ∧ Rel gl Z s a := by
  have W : WEvo X ⟨X.ρ, X.hp, X.F, { X.w with drawn := X.w.drawn + 1 }⟩ := ⟨rfl, rfl, rfl, Nat.le_refl _, fun _ c _ _ h => ⟨c, h, rfl⟩, fun _ _ _ => rfl, fun _ _ h => h, fun _ h => h, fun _ h => .inl h⟩
  have H : HEvo X ⟨X.ρ, X.hp, X.F, { X.w with drawn := X.w.drawn + 1 }⟩ := ⟨fun _ b hb hn => ⟨b, hb, .refl hn⟩, fun _ _ _ _ => rfl⟩
  exact ⟨⟨X.ρ, X.hp, X.F, { X.w with drawn := X.w.drawn + 1 }⟩, rfl, W, H, h.glo.evo W h.ok.fo, h.defers, h.size, fun i av hi => by obtain ⟨v, h1, h2⟩ := h.tm i av hi; exact ⟨v, h1, h2.evo W H h.ok.fo⟩, h.hp,
    ⟨fun id b hb => (h.ok.blk id b hb).evo W H h.ok.fo rfl fun _ _ _ => rfl, h.ok.inj, h.ok.fo⟩⟩

def loopsOf : Nat → Code → List (Nat × Code)
  | j, .seq a b => loopsOf j a ++ loopsOf (j + loops a) b
  | j, .cond _ a b => loopsOf j a ++ loopsOf (j + loops a) b
  | j, .block _ c => loopsOf j c
  | j, .loop c => (j, c) :: loopsOf (j + 1) c
  | _, _ => []

def LoopOK (P : Program) (gl : GL) (c : Code) (L : Loop A) : Prop :=
  ∀ (s : St) (k : Ex → St → Option A) (out : A), L.run s k = some out → ∃ x s', k x s' = some out ∧ CSem P gl (.loop c) s x s'

theorem Sh.read_fill : ∀ {h : Sh} {v : AV} {x : h.den}, h.read v = some x → v = h.fill x
  | .any, v, x, hr => by cases v <;> first | rfl | (simp [Sh.read] at hr)
  | .p K, v, x, hr => by
    cases v <;> simp only [Sh.read] at hr <;> first | (cases hr; done) | skip
    split at hr
    · rename_i h; subst h; cases hr; rfl
    · cases hr
  | .pr a b, v, x, hr => by
    cases v <;> simp only [Sh.read] at hr <;> first | (cases hr; done) | skip
    split at hr
    · rename_i h1 h2
      cases hr
      simp only [Sh.fill]
      rw [← Sh.read_fill h1, ← Sh.read_fill h2]
    · cases hr
  | .row id, v, x, hr => by
    cases v <;> simp only [Sh.read] at hr <;> first | (cases hr; done) | skip
    split at hr
    · rename_i h; subst h; rfl
    · cases hr
  | .ptr id, v, x, hr => by
    cases v with
    | ptr id' q =>
      cases q with
      | nil =>
        simp only [Sh.read] at hr
        split at hr
        · rename_i h; subst h; rfl
        · cases hr
      | cons => simp [Sh.read] at hr
    | _ => simp [Sh.read] at hr
  | .mp id, v, x, hr => by
    cases v <;> simp only [Sh.read] at hr <;> first | (cases hr; done) | skip
    split at hr
    · rename_i h; subst h; rfl
    · cases hr
  | .nilp, v, x, hr => by cases v <;> first | rfl | (simp [Sh.read] at hr)
  | .slc id, v, x, hr => by
    cases v with
    | slc id' q lo len =>
      cases q with
      | nil =>
        simp only [Sh.read] at hr
        split at hr
        · rename_i h; subst h; cases hr; rfl
        · cases hr
      | cons => simp [Sh.read] at hr
    | _ => simp [Sh.read] at hr

theorem BSh.read_fill : ∀ {h : BSh} {v : Blk} {x : h.den}, h.read v = some x → v = h.fill x
  | .var t K h, v, x, hr => by
    cases v <;> simp only [BSh.read] at hr <;> first | (cases hr; done) | skip
    split at hr
    · rename_i he; obtain ⟨rfl, rfl⟩ := he; simp only [BSh.fill]; rw [← Sh.read_fill hr]
    · cases hr
  | .row t K, v, x, hr => by
    cases v <;> simp only [BSh.read] at hr <;> first | (cases hr; done) | skip
    split at hr
    · rename_i h; subst h
      split at hr
      · rename_i h; subst h; cases hr; rfl
      · cases hr
    · cases hr
  | .map KK KV, v, x, hr => by
    cases v <;> simp only [BSh.read] at hr <;> first | (cases hr; done) | skip
    split at hr
    · rename_i h; subst h
      split at hr
      · rename_i h; subst h; cases hr; rfl
      · cases hr
    · cases hr
  | .gone, v, x, hr => by cases v <;> first | rfl | (simp [BSh.read] at hr)

theorem shRead_fill : ∀ {hs : List Sh} {vs : List AV} {x : shDen hs}, shRead hs vs = some x → vs = shFill hs x
  | [], [], _, _ => rfl
  | h :: r, v :: vs, x, hr => by
    simp only [shRead] at hr
    split at hr
    · rename_i h1 h2
      cases hr
      simp only [shFill]
      rw [← Sh.read_fill h1, ← shRead_fill h2]
    · cases hr
  | [], _ :: _, _, h => by cases h
  | _ :: _, [], _, h => by cases h

theorem bshRead_fill : ∀ {hs : List BSh} {vs : List Blk} {x : bshDen hs}, bshRead hs vs = some x → vs = bshFill hs x
  | [], [], _, _ => rfl
  | h :: r, v :: vs, x, hr => by
    simp only [bshRead] at hr
    split at hr
    · rename_i h1 h2
      cases hr
      simp only [bshFill]
      rw [← BSh.read_fill h1, ← bshRead_fill h2]
    · cases hr
  | [], _ :: _, _, h => by cases h
  | _ :: _, [], _, h => by cases h

theorem argD_sound {out : A} {v : AV} {K : Kind} {k : K.den → Option A} (h : argD v K k = some out) : ∃ x, v = .p K x ∧ k x = some out := by
  unfold argD at h
  split at h
  · split at h
    · rename_i h'; subst h'; exact ⟨_, rfl, h⟩
    · cases h
  · cases h

section
variable {P : Program} {E : Env A} (T : TyOK P E) (fns : FnsOK P E) (hm : P.follows .mixedOrders = true) {out : A}
include T fns hm

theorem region_sound {id : Nat} {ops : Array Oper} {draw : Bool} {s : St} {k : St → Option A} (h : regionK E ops draw s k = some out) : ∃ s', k s' = some out ∧ CSem P E.gl (.region id ops draw) s .normal s' := by
  unfold regionK at h
  obtain ⟨ps, s', hc, hk⟩ := opsK_sound T fns h
  cases draw with
  | false =>
    refine ⟨s', by simpa using hk, chain_m hc, fun X a Q hr hq => wp_region ?_⟩
    have := chain_text hc (i := 0) (by simp) hr (Q := Q) fun Y a' h1 h2 h3 => hq Y a' h2 (h3.pevo _) h1
    rw [Array.length_toList, ← List.range_eq_range'] at this
    exact this
  | true =>
    simp only [cond_true, List.append_nil, List.reverse_reverse] at hk
    cases hi : indepB ops (ps.map Stp.fp) with
    | false => rw [hi] at hk; cases hk
    | true =>
      rw [hi] at hk
      have hlen : ps.length = ops.size := by rw [chain_len hc]; simp
      have I := indepB_spec hi hlen
      refine ⟨s', hk, chain_m hc, fun X a Q hr hq => wp_region_any hm ?_⟩
      obtain ⟨Z, h1, h2, hH, h3⟩ := drew_sound hr
      rw [← h1]
      have none_ : ∀ i, i < ops.size → (Array.replicate ops.size false).getD i true = false := fun i hi => by simp [Array.getD, hi]
      refine chain_any hc I ops.size _ Z a (by simp) (fun j o hj hl => ?_) (Nat.le_trans (List.length_filter_le _ _) (by simp)) ?_ fun Y a' g1 g2 g3 => hq Y a' (h2.trans g2) ((hH.trans g3).pevo _) g1
      · have : j < ops.size := by have := (List.getElem?_eq_some_iff.1 hj).1; simpa using this
        rw [none_ j this] at hl; cases hl
      · have : app (fun i => (Array.replicate ops.size false).getD i true) 0 ps s = s := by
          rw [app_same (S' := fun _ => false) ps 0 s fun k hk => by rw [Nat.zero_add, none_ k (by omega)]]
          exact app_none _ ps 0 s fun _ _ => rfl
        rw [this]; exact h3

theorem codeK_sound : ∀ {j : Nat} {c : Code}, (∀ q ∈ loopsOf j c, ∀ L, E.lps.lookup q.1 = some L → LoopOK P E.gl q.2 L) → ∀ {s : St} {k : Ex → St → Option A}, codeK E j c s k = some out → ∃ x s', k x s' = some out ∧ CSem P E.gl c s x s'
  | j, .skip, lo, s, k, h => ⟨.normal, s, h, rfl, fun X a Q hr hq => wp_skip (hq X a (.refl X) (.refl _ X) hr)⟩
  | j, .region id ops draw, lo, s, k, h => by
    obtain ⟨s', h1, h2⟩ := region_sound T fns hm (id := id) (by simpa [codeK] using h)
    exact ⟨.normal, s', h1, h2⟩
  | j, .seq c d, lo, s, k, h => by
    simp only [codeK] at h
    obtain ⟨x, s1, h1, hm1, h2⟩ := codeK_sound (fun q hq => lo q (by simp only [loopsOf, List.mem_append]; exact .inl hq)) h
    have other : ∀ (y : Ex), y ≠ .normal → x = y → k y s1 = some out → ∃ x s', k x s' = some out ∧ CSem P E.gl (.seq c d) s x s' := fun y hy hx hk =>
      ⟨y, s1, hk, hm1, fun X a Q hr hq => wp_seq (h2 X a _ hr fun Y a' W V R => by subst hx; have := hq Y a' W V R; cases x <;> first | exact absurd rfl hy | exact this)⟩
    cases x with
    | normal =>
      obtain ⟨y, s2, h3, hm2, h4⟩ := codeK_sound (c := d) (fun q hq => lo q (by simp only [loopsOf, List.mem_append]; exact .inr hq)) (s := s1) h1
      exact ⟨y, s2, h3, hm2.trans hm1, fun X a Q hr hq => wp_seq (h2 X a _ hr fun Y a' W V R => h4 Y a' Q R fun Z b WZ VZ RZ => hq Z b (W.trans WZ) (V.trans (hm1 ▸ VZ)) RZ)⟩
    | exit id => exact other (.exit id) (by simp) rfl h1
    | ret => exact other .ret (by simp) rfl h1
  | j, .cond c d e, lo, s, k, h => by
    simp only [codeK] at h
    split at h
    · rename_i t
      split at h
      · rename_i q hq
        have ev : ∀ {X : Cx} {a : Act}, Rel E.gl X s a → a.eval (.tmp t) = .bool q := fun {X a} hr => by
          have := hr.eval t
          rw [List.getD_eq_getElem?_getD, hq, Option.getD_some, RS.bool] at this
          exact this
        cases q with
        | true =>
          simp only [cond_true, St.put_same hq] at h
          obtain ⟨x, s1, h1, hm1, h2⟩ := codeK_sound (c := d) (fun q hq => lo q (by simp only [loopsOf, List.mem_append]; exact .inl hq)) (s := s) h
          exact ⟨x, s1, h1, hm1, fun X a Q hr hq => wp_cond_true (ev hr) (h2 X a Q hr hq)⟩
        | false =>
          simp only [cond_false, St.put_same hq] at h
          obtain ⟨x, s1, h1, hm1, h2⟩ := codeK_sound (c := e) (fun q hq => lo q (by simp only [loopsOf, List.mem_append]; exact .inr hq)) (s := s) h
          exact ⟨x, s1, h1, hm1, fun X a Q hr hq => wp_cond_false (ev hr) (h2 X a Q hr hq)⟩
      · cases h
    · rename_i q
      cases q with
      | true =>
        obtain ⟨x, s1, h1, hm1, h2⟩ := codeK_sound (c := d) (fun q hq => lo q (by simp only [loopsOf, List.mem_append]; exact .inl hq)) (s := s) h
        exact ⟨x, s1, h1, hm1, fun X a Q hr hq => wp_cond_true rfl (h2 X a Q hr hq)⟩
      | false =>
        obtain ⟨x, s1, h1, hm1, h2⟩ := codeK_sound (c := e) (fun q hq => lo q (by simp only [loopsOf, List.mem_append]; exact .inr hq)) (s := s) h
        exact ⟨x, s1, h1, hm1, fun X a Q hr hq => wp_cond_false rfl (h2 X a Q hr hq)⟩
    · cases h
  | j, .block id c, lo, s, k, h => by
    simp only [codeK] at h
    obtain ⟨x, s1, h1, hm1, h2⟩ := codeK_sound (c := c) (fun q hq => lo q (by simpa only [loopsOf] using hq)) h
    cases x with
    | normal => exact ⟨.normal, s1, h1, hm1, fun X a Q hr hq => wp_block (h2 X a _ hr hq)⟩
    | exit j =>
      simp only [blockC] at h1
      split at h1
      · rename_i hj
        exact ⟨.normal, s1, h1, hm1, fun X a Q hr hq => wp_block (h2 X a _ hr fun Y a' W V R => by simp only [Ex.out, Exit.inBlock, hj, if_true]; exact hq Y a' W V R)⟩
      · rename_i hj
        exact ⟨.exit j, s1, h1, hm1, fun X a Q hr hq => wp_block (h2 X a _ hr fun Y a' W V R => by simp only [Ex.out, Exit.inBlock, hj, if_false]; exact hq Y a' W V R)⟩
    | ret => exact ⟨.ret, s1, h1, hm1, fun X a Q hr hq => wp_block (h2 X a _ hr hq)⟩
  | j, .loop c, lo, s, k, h => by
    simp only [codeK] at h
    split at h
    · rename_i L hL
      obtain ⟨h, hc⟩ := canonK_sound h
      obtain ⟨x, s', h1, hm1, h2⟩ := lo (j, c) (by simp [loopsOf]) L hL _ _ _ h
      refine ⟨x, s', h1, hm1, fun X a Q hr hq => ?_⟩
      obtain ⟨Z, g1, g2, gp, g3⟩ := canon_sound hr L.dead hc
      rw [← g1]
      exact h2 Z a Q g3 fun V b WV PV RV => hq V b (g2.trans WV) (gp.trans PV) RV
    · cases h
  | j, .exit id, lo, s, k, h => ⟨.exit id, s, h, rfl, fun X a Q hr hq => wp_exit (hq X a (.refl X) (.refl _ X) hr)⟩
  | j, .ret, lo, s, k, h => ⟨.ret, s, h, rfl, fun X a Q hr hq => wp_ret (hq X a (.refl X) (.refl _ X) hr)⟩
  | _, .label _, _, _, _, h => by cases h
  | _, .goto _, _, _, _, h => by cases h
  | _, .scope _, _, _, _, h => by cases h

/-- The rounds of a loop. -/
theorem loopK_sound {j : Nat} {c : Code} (lo : ∀ q ∈ loopsOf j c, ∀ L, E.lps.lookup q.1 = some L → LoopOK P E.gl q.2 L) (dead xdead : List Nat) {k : Ex → St → Option A} : ∀ (f : Nat) (s : St), loopK (codeK E j c) dead xdead f s k = some out → ∃ x s', k x s' = some out ∧ RSem P E.gl c f s x s' := by
  intro f
  induction f with
  | zero => intro s h; cases h
  | succ f ih =>
    intro s h
    simp only [loopK] at h
    obtain ⟨x, s1, h1, hm1, h2⟩ := codeK_sound T fns hm lo h
    have other : x ≠ .normal → canonK xdead s1 (fun s' => k x s') = some out → ∃ x s', k x s' = some out ∧ RSem P E.gl c (f + 1) s x s' := fun hy hk => by
      obtain ⟨hk, hc⟩ := canonK_sound hk
      exact ⟨x, canon xdead s1, hk, hm1, fun X a Q hr hq => by
        rw [rounds_succ]
        refine h2 X a _ hr fun Y a' W V R => ?_
        obtain ⟨Z, g1, g2, gp, g3⟩ := canon_sound R xdead hc
        have := hq Z a' (W.trans g2) (V.trans (hm1 ▸ gp)) g3
        rw [g1] at this
        cases x <;> first | exact absurd rfl hy | exact this⟩
    cases x with
    | normal =>
      obtain ⟨h1, hc⟩ := canonK_sound h1
      obtain ⟨y, s2, h3, hm2, h4⟩ := ih _ h1
      refine ⟨y, s2, h3, hm2.trans hm1, fun X a Q hr hq => ?_⟩
      rw [rounds_succ]
      refine h2 X a _ hr fun Y a' W V R => ?_
      obtain ⟨Z, g1, g2, gp, g3⟩ := canon_sound R dead hc
      show Code.rounds P c Q f a' Y.w
      rw [← g1]
      have gp' : PEvo s.m Y Z := hm1 ▸ gp
      exact h4 Z a' Q g3 fun U b WV PV RV => hq U b ((W.trans g2).trans WV) ((V.trans gp').trans (hm1 ▸ PV)) RV
    | exit id => exact other (by simp) h1
    | ret => exact other (by simp) h1

/-- A loop's entry, by the equation of its function. -/
theorem LoopOK.of {j n : Nat} {c : Code} (lo : ∀ q ∈ loopsOf j c, ∀ L, E.lps.lookup q.1 = some L → LoopOK P E.gl q.2 L) {dead xdead : List Nat} {S : Shape} {g : S.den → (Ex → St → Option A) → Option A}
    (h : ∀ d k, loopK (codeK E j c) dead xdead n (S.fill d) k = g d k) : LoopOK P E.gl c (loopE dead S g) := by
  intro s k out hr
  simp only [loopE] at hr
  split at hr
  · rename_i hm0
    split at hr
    · rename_i x y hx hy
      have hs : s = S.fill (x, y) := by
        obtain ⟨tm, hp, m⟩ := s
        simp only at hx hy hm0
        subst hm0
        rw [shRead_fill hx, bshRead_fill hy]
        rfl
      rw [← h] at hr
      obtain ⟨x', s', h1, hm1, h2⟩ := loopK_sound T fns hm lo dead xdead n _ hr
      rw [← hs] at hm1 h2
      exact ⟨x', s', h1, hm1, fun X a Q hr hq => wp_loop_rounds n (h2 X a Q hr hq)⟩
    · cases hr
  · cases hr
end
end Go.Ev
end

