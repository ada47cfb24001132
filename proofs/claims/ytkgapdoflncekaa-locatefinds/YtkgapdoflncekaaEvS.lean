/-
  CALLS: what a callee is told, what comes back.
-/
import Derived.Test.YtkgapdoflncekaaEvR
import Derived.Calls
set_option linter.all false
namespace Go.Ev
variable {A : Type}

/-- Where nothing is ours. -/
def X0 (F : Nat → Prop) (w : World) : Cx := ⟨fun _ => none, [], F, w⟩

/-- A call of a function, whether it has code or is the model's own. -/
def Applies (P : Program) (f : FuncId) (vals : Array Value) (w : World) (K : Value → World → Prop) : Prop :=
  ∃ nx w1, (callFunc f vals).run P w = .ok nx w1 ∧ ((∃ u, nx = .value u ∧ K u w1) ∨ (nx = .enter f vals ∧ Calls P f vals w1 fun e w' => ∃ u, e = .returned u ∧ K u w'))

/-- What a function does, told of data that it is handed. -/
def FnSem (P : Program) (f : FuncId) (args : List AV) (r : AV) (hp : List Blk) : Prop :=
  ∀ (F : Nat → Prop) (w : World) (vals : Array Value), (∀ b, F b → b < w.heap.size) → All2 (RS (X0 F w)) args vals.toList →
    Applies P f vals w fun u w' => ∃ Y : Cx, Y.w = w' ∧ Y.hp = hp ∧ RS Y r u ∧ Ok Y ∧ WEvo (X0 F w) Y

def FnOK (P : Program) (f : FuncId) (en : Entry A) : Prop :=
  ∀ (args : List AV) (k : AV → List Blk → Option A) (out : A), en.run args k = some out → ∃ r hp, k r hp = some out ∧ FnSem P f args r hp

def FnsOK (P : Program) (E : Env A) : Prop := ∀ f en, E.fns.lookup f = some en → FnOK P f en

-- ------------------------------------------------------------ blocks assigned

theorem asg_out : ∀ (L : List (Nat × Blk)) (hp : List Blk) (j : Nat) (c : Blk), (∀ q ∈ L, q.1 ≠ j) → hp[j]? = some c → (asg hp L)[j]? = some c
  | [], _, _, _, _, h => h
  | q :: L, hp, j, c, hn, h => asg_out L _ j c (fun q hq => hn q (by simp [hq])) (hpSet_old _ _ _ (Ne.symm (hn q (by simp))) h)

theorem asg_in : ∀ (L : List (Nat × Blk)) (hp : List Blk) (j : Nat) (b : Blk), (∀ q ∈ L, q.1 = j → q.2 = b) → (∃ q ∈ L, q.1 = j) → (asg hp L)[j]? = some b
  | [], _, _, _, _, h => by obtain ⟨q, hq, _⟩ := h; cases hq
  | q :: L, hp, j, b, hu, h => by
    by_cases hL : ∃ q ∈ L, q.1 = j
    · exact asg_in L _ j b (fun q hq => hu q (by simp [hq])) hL
    · obtain ⟨p, hp', hpj⟩ := h
      rcases List.mem_cons.1 hp' with rfl | hp'
      · have e := hu p (by simp) hpj
        subst hpj
        exact asg_out L _ p.1 b (fun q hq hj => hL ⟨q, hq, hj⟩) (by rw [e]; exact hpSet_same ..)
      · exact absurd ⟨p, hp', hpj⟩ hL

theorem asg_cases : ∀ (L : List (Nat × Blk)) (hp : List Blk) (j : Nat) (c : Blk), (asg hp L)[j]? = some c → (∃ q ∈ L, q.1 = j ∧ q.2 = c) ∨ ((∀ q ∈ L, q.1 ≠ j) ∧ (hp[j]? = some c ∨ c = .free))
  | [], _, _, _, h => .inr ⟨by simp, .inl h⟩
  | q :: L, hp, j, c, h => by
    rcases asg_cases L _ j c h with ⟨p, hp', h1, h2⟩ | ⟨h1, h2⟩
    · exact .inl ⟨p, by simp [hp'], h1, h2⟩
    · by_cases hq : q.1 = j
      · subst hq
        rw [hpSet_same] at h2
        rcases h2 with h2 | rfl
        · cases h2; exact .inl ⟨q, by simp, rfl, rfl⟩
        · by_cases h3 : q.2 = .free
          · exact .inl ⟨q, by simp, rfl, h3⟩
          · -- the block there is q.2, and nothing else
            have := asg_out L (hpSet hp q.1 q.2) q.1 q.2 (fun p hp' => h1 p hp') (hpSet_same ..)
            have h' : (asg (hpSet hp q.1 q.2) L)[q.1]? = some .free := h
            rw [this] at h'; exact absurd (Option.some.inj h') h3
      · refine .inr ⟨fun p hp' => by rcases List.mem_cons.1 hp' with rfl | hp'; exact hq; exact h1 p hp', ?_⟩
        rcases h2 with h2 | h2
        · rcases hpSet_cases h2 with ⟨h3, _⟩ | ⟨_, h3⟩ | ⟨_, h3⟩
          · exact absurd h3.symm hq
          · exact .inl h3
          · exact .inr h3
        · exact .inr h2

-- ------------------------------------------------------------ what is handed over, as data

/-- The blocks that some numbers of ours stand for. -/
def Cx.Held (X : Cx) (ids : List Nat) (b : Nat) : Prop := ∃ id ∈ ids, ∃ blk, X.hp[id]? = some blk ∧ blk.live = true ∧ X.ρ id = some b

theorem pureK_leaf {out : A} {sub : List (Nat × Blk)} {v : AV} {k : AV → Option A} (h : (listK sub v fun K xs => k (.p (.sl K) xs)) = some out) (hid : ∃ id, v.ids = [id]) (h1 : ∀ K x, v ≠ .p K x) (h2 : ∀ a b, v ≠ .pr a b) (hagg : v.agg = false) :
      ∃ K x, k (.p K x) = some out ∧ (∀ id ∈ v.ids, ∃ c, sub.lookup id = some c ∧ c.live = true) ∧ ∀ {X : Cx} {F : Nat → Prop} {cs : List Value}, Ok X → (∀ (id : Nat) (b : Blk), sub.lookup id = some b → X.hp[id]? = some b) →
      (∀ b, X.F b → F b) → (∀ b, X.Held v.ids b → F b) → RA X v cs → RP F X.w K x cs ∧ v.agg = K.isAgg := by
    obtain ⟨K, ys, h', hl⟩ := listK_sound h
    refine ⟨.sl K, ys, h', ?_, fun {X F cs} ok hs hF hH hr => ⟨?_, by rw [hagg]; rfl⟩⟩
    · obtain ⟨id, hid⟩ := hid
      intro j hj
      rw [hid] at hj; simp at hj; subst hj
      cases v with
      | row i => simp [AV.ids] at hid; subst hid; obtain ⟨b, hb, h⟩ := look_sound h; refine ⟨b, hb, ?_⟩; cases b <;> first | rfl | (cases h)
      | sub i _ _ => simp [AV.ids] at hid; subst hid; obtain ⟨b, hb, h⟩ := look_sound h; refine ⟨b, hb, ?_⟩; cases b <;> first | rfl | (cases h)
      | slc i _ _ _ => simp [AV.ids] at hid; subst hid; obtain ⟨b, hb, h⟩ := look_sound h; refine ⟨b, hb, ?_⟩; cases b <;> first | rfl | (cases h)
      | pr a b => exact absurd rfl (h2 a b)
      | p K x => exact absurd rfl (h1 K x)
      | ptr _ _ => simp [listK] at h
      | mp _ => simp [listK] at h
      | _ => simp [AV.ids] at hid
    · obtain ⟨u, rfl, h3⟩ := (RA.single h1 h2).1 hr
      have hany : v ≠ .any := fun e => by rw [e] at hid; obtain ⟨_, h⟩ := hid; simp [AV.ids] at h
      have htup : ∀ vs, v ≠ .tup vs := fun vs e => by rw [e] at hid; obtain ⟨_, h⟩ := hid; simp [AV.ids] at h
      obtain ⟨ao, c, rfl, h4, h5⟩ := (hl X u ok hs ((RS.one h1 h2 hany htup).2 h3)).get
      refine ⟨ao, c, rfl, h4, fun hp => ?_⟩
      obtain ⟨ad, css, rfl, h6, h7, h8⟩ := h5 hp
      refine ⟨ad, css, rfl, ?_, h7.imp fun _ _ _ _ hr => RP.mono hF (fun _ _ => rfl) hr, h8⟩
      rcases h6 with h6 | ⟨id, hid, hρ, b, hb, hl⟩
      · exact hF _ h6
      · exact hH _ ⟨id, hid, b, hb, hl, hρ⟩

theorem pureK_sound {out : A} {sub : List (Nat × Blk)} : ∀ {v : AV} {k : AV → Option A}, pureK sub v k = some out →
    ∃ K x, k (.p K x) = some out ∧ (∀ id ∈ v.ids, ∃ c, sub.lookup id = some c ∧ c.live = true) ∧ ∀ {X : Cx} {F : Nat → Prop} {cs : List Value}, Ok X → (∀ (id : Nat) (b : Blk), sub.lookup id = some b → X.hp[id]? = some b) →
      (∀ b, X.F b → F b) → (∀ b, X.Held v.ids b → F b) → RA X v cs → RP F X.w K x cs ∧ v.agg = K.isAgg
  | .p K x, k, h => ⟨K, x, h, by simp [AV.ids], fun {X F cs} ok hs hF hH hr => ⟨RP.mono hF (fun _ _ => rfl) hr, rfl⟩⟩
  | .pr a b, k, h => by
    simp only [pureK] at h
    obtain ⟨K, x, h, s1, r1⟩ := pureK_sound h
    obtain ⟨K', x', h, s2, r2⟩ := pureK_sound h
    refine ⟨_, _, h, fun id hid => ?_, fun {X F cs} ok hs hF hH hr => ?_⟩
    · simp only [AV.ids, List.mem_append] at hid
      exact hid.elim (s1 id) (s2 id)
    · obtain ⟨c1, c2, rfl, h1, h2⟩ := hr
      obtain ⟨g1, _⟩ := r1 ok hs hF (fun b hb => hH b (by obtain ⟨id, h, r⟩ := hb; exact ⟨id, by simp [AV.ids, h], r⟩)) h1
      obtain ⟨g2, _⟩ := r2 ok hs hF (fun b hb => hH b (by obtain ⟨id, h, r⟩ := hb; exact ⟨id, by simp [AV.ids, h], r⟩)) h2
      exact ⟨⟨c1, c2, rfl, g1, g2⟩, rfl⟩
  | .row id, k, h => pureK_leaf (v := .row id) (by simpa [pureK] using h) ⟨id, by simp [AV.ids]⟩ (by simp) (by simp) rfl
  | .sub id a b, k, h => pureK_leaf (v := .sub id a b) (by simpa [pureK] using h) ⟨id, by simp [AV.ids]⟩ (by simp) (by simp) rfl
  | .slc id q a b, k, h => pureK_leaf (v := .slc id q a b) (by simpa [pureK] using h) ⟨id, by simp [AV.ids]⟩ (by simp) (by simp) rfl
  | .any, k, h => by simp [pureK] at h
  | .ptr _ _, k, h => by simp [pureK] at h
  | .vp _ _, k, h => by simp [pureK] at h
  | .mp _, k, h => by simp [pureK] at h
  | .nilp, k, h => by simp [pureK] at h
  | .tup _, k, h => by simp [pureK] at h
theorem passK_sound {out : A} {sub : List (Nat × Blk)} : ∀ {vs : List AV} {k : List AV → Option A}, passK sub vs k = some out →
    ∃ vs', k vs' = some out ∧ (∀ v ∈ vs, ∀ id ∈ v.ids, ∃ c, sub.lookup id = some c ∧ c.live = true) ∧ ∀ {X : Cx} {F : Nat → Prop} {us : List Value}, Ok X → (∀ (id : Nat) (b : Blk), sub.lookup id = some b → X.hp[id]? = some b) →
      (∀ b, X.F b → F b) → (∀ b, X.Held (vs.flatMap AV.ids) b → F b) → All2 (RS X) vs us → All2 (RS (X0 F X.w)) vs' us
  | [], k, h => ⟨[], h, by simp, fun _ _ _ _ h => by cases h; exact .nil⟩
  | v :: vs, k, h => by
    simp only [passK] at h
    have h0 := h
    obtain ⟨K, x, h, s1, r1⟩ := pureK_sound h
    obtain ⟨vs', h, s2, r2⟩ := passK_sound h
    refine ⟨_, h, fun w hw => by rcases List.mem_cons.1 hw with rfl | hw; exact s1; exact s2 w hw, fun {X F us} ok hs hF hH hr => ?_⟩
    cases hr with
    | @cons _ u _ us hu hr =>
      refine .cons ?_ (r2 ok hs hF (fun b hb => hH b (by obtain ⟨id, h, r⟩ := hb; exact ⟨id, by simp only [List.flatMap_cons, List.mem_append]; exact .inr h, r⟩)) hr)
      have htup : ∀ ws, v ≠ .tup ws := fun ws e => by subst e; simp [pureK] at h0
      have hany : v.isAny = false := by cases v <;> first | rfl | (simp [pureK] at h0)
      rcases hu.to0 htup with h3 | ⟨cs, h3, h4⟩
      · rw [hany] at h3; cases h3
      · obtain ⟨g1, g2⟩ := r1 ok hs hF (fun b hb => hH b (by obtain ⟨id, h, r⟩ := hb; exact ⟨id, by simp only [List.flatMap_cons, List.mem_append]; exact .inl h, r⟩)) h3
        refine RS.of0 (.inr ⟨cs, g1, ?_⟩) (by simp)
        rw [g2] at h4; exact h4

theorem argsV_sound {P : Program} {E : Env A} {ev : Operand → AV} {out : A} : ∀ {l : List (TypeId × Operand)} {k : List AV → Option A}, argsV E ev l k = some out →
    ∃ vs, k vs = some out ∧ (∀ v ∈ vs, ∀ id ∈ v.ids, ∃ q ∈ l, v = ev q.2) ∧ ∀ (X : Cx) (a : Act), (∀ q ∈ l, RS X (ev q.2) (a.eval q.2)) → All2 (RS X) vs (l.map fun q => a.eval q.2)
  | [], k, h => ⟨[], h, by simp, fun _ _ _ => .nil⟩
  | (t, x) :: r, k, h => by
    simp only [argsV, argV] at h
    split at h
    · obtain ⟨i, _, h⟩ := ti_sound h
      split at h
      · rename_i K _
        obtain ⟨vs, h, h1, h2⟩ := argsV_sound (P := P) h
        refine ⟨_, h, fun v hv id hid => ?_, fun X a hr => .cons ?_ (h2 X a fun q hq => hr q (by simp [hq]))⟩
        · rcases List.mem_cons.1 hv with rfl | hv
          · simp [AV.ids] at hid
          · obtain ⟨q, hq, e⟩ := h1 v hv id hid; exact ⟨q, by simp [hq], e⟩
        · exact RS.of0 (.inr ⟨[.slice none 0 0], ⟨none, 0, rfl, Nat.le_refl _, fun h => absurd h (by simp)⟩, .inr ⟨rfl, rfl⟩⟩) (by simp)
      · cases h
    · obtain ⟨vs, h, h1, h2⟩ := argsV_sound (P := P) h
      refine ⟨_, h, fun v hv id hid => ?_, fun X a hr => .cons (hr (t, x) (by simp)) (h2 X a fun q hq => hr q (by simp [hq]))⟩
      rcases List.mem_cons.1 hv with rfl | hv
      · exact ⟨(t, x), by simp, rfl⟩
      · obtain ⟨q, hq, e⟩ := h1 v hv id hid; exact ⟨q, by simp [hq], e⟩

theorem BlkEvo.ren {b : Blk} {f : Nat → Option Nat} : (b.ren f).live = b.live := by cases b <;> rfl

section
variable {P : Program} {E : Env A} {o : Oper} {ev : Operand → AV} {sub : List (Nat × Blk)} {fresh : Nat} {k : Cont A} {out : A}

theorem call_sound (fns : FnsOK P E) {f : FuncId} {c : Call} (ho : o.op = .call c) (hc : c.callee = .value (.func f)) (hsz : c.argTypes.size = c.args.size)
    (h : (argsV E ev (c.argTypes.toList.zip c.args.toList) fun args => callK E f args sub fresh k) = some out) : ∃ v l, k v l = some out ∧ OpSem P o ev sub fresh v l := by
  have marg : ∀ x ∈ c.args, x ∈ o.op.operands := fun x hx => by simp [Op.operands, ho, Call.operands, hc, hx]
  have hzip : (c.argTypes.toList.zip c.args.toList).map (·.2) = c.args.toList := by
    rw [List.map_snd_zip]; simp [hsz]
  obtain ⟨args, h, _, hargs⟩ := argsV_sound (P := P) h
  unfold callK at h
  split at h
  · cases h
  · rename_i en hen
    obtain ⟨vs, h, hsub, hpass⟩ := passK_sound h
    obtain ⟨r, hp, h, hsem⟩ := fns f en hen vs _ out h
    refine ⟨_, _, h, ?_, ?_⟩
    · intro q hq
      rcases List.mem_append.1 hq with hq | hq
      · right
        cases hsl : (r.hasSl || hp.any Blk.hasSl) with
        | false => rw [hsl] at hq; simp at hq
        | true =>
          rw [hsl] at hq
          simp only [cond_true, List.mem_map, List.mem_flatMap] at hq
          obtain ⟨id, ⟨v, hv, hid⟩, rfl⟩ := hq
          obtain ⟨c, hc, _⟩ := hsub v hv id hid; exact ⟨c, hc⟩
      · left
        simp only [List.mem_map] at hq
        obtain ⟨p, _, rfl⟩ := hq
        exact Nat.le_add_right _ _
    · intro X a Kc Q at_ hun hk
      -- the callee's run
      let ids := args.flatMap AV.ids
      let F1 : Nat → Prop := fun b => X.F b ∨ X.Held ids b
      have hr0 : All2 (RS X) args (c.args.map a.eval).toList := by
        have := hargs X a fun q hq => at_.opr _ (marg _ (by have := (List.of_mem_zip (a := q.1) (b := q.2) hq).2; simpa using this))
        rw [Array.toList_map, ← hzip, List.map_map]; exact this
      have hr1 : All2 (RS (X0 F1 X.w)) vs (c.args.map a.eval).toList := hpass at_.ok at_.sub (fun _ h => .inl h) (fun _ h => .inr h) hr0
      have hF1 : ∀ b, F1 b → b < X.w.heap.size := fun b hb => by
        rcases hb with hb | ⟨id, _, blk, h1, h2, h3⟩
        · exact (at_.ok.fo b hb).1
        · exact at_.ok.lt ⟨id, blk, h1, h2, h3⟩
      have hap := hsem F1 X.w (c.args.map a.eval) hF1 hr1
      -- what is behind it
      have fin : ∀ (u : Value) (w' : World), (∃ Y : Cx, Y.w = w' ∧ Y.hp = hp ∧ RS Y r u ∧ Ok Y ∧ WEvo (X0 F1 X.w) Y) → Kc (a.put o.dst u) w' := by
        rintro u w' ⟨Y, rfl, rfl, hru, okY, W⟩
        generalize hsl : (r.hasSl || Y.hp.any Blk.hasSl) = sl at h hun hk
        let L : List (Nat × Blk) := (bif sl then (args.flatMap AV.ids).map fun id => (id, Blk.gone) else []) ++ Y.hp.zipIdx.map fun q => (fresh + q.2, q.1.ren fun i => some (fresh + i))
        let Z : Cx := ⟨fun id => if fresh ≤ id ∧ id < fresh + Y.hp.length then Y.ρ (id - fresh) else X.ρ id, asg X.hp L, fun b => if sl = true then Y.F b else X.F b, Y.w⟩
        -- the new numbers
        have newUn : ∀ i, i < Y.hp.length → X.unused (fresh + i) := fun i hi => by
          refine hun (fresh + i, (Y.hp[i]).ren fun i => some (fresh + i)) (List.mem_append.2 (.inr ?_)) (Nat.le_add_right _ _)
          simp only [List.mem_map]
          exact ⟨(Y.hp[i], i), by rw [List.mem_zipIdx_iff_getElem?]; simp [hi], rfl⟩
        have goneIn : ∀ q ∈ L, (sl = true ∧ q.1 ∈ ids ∧ q.2 = .gone) ∨ ∃ i b, Y.hp[i]? = some b ∧ q = (fresh + i, b.ren fun i => some (fresh + i)) := fun q hq => by
          rcases List.mem_append.1 hq with hq | hq
          · cases hs : sl with
            | false => rw [hs] at hq; simp at hq
            | true =>
              rw [hs] at hq
              simp only [cond_true, List.mem_map] at hq
              obtain ⟨id, hid, rfl⟩ := hq
              exact .inl ⟨rfl, hid, rfl⟩
          · simp only [List.mem_map] at hq
            obtain ⟨p, hp, rfl⟩ := hq
            rw [List.mem_zipIdx_iff_getElem?] at hp
            exact .inr ⟨p.2, p.1, hp, rfl⟩
        have idsX : ∀ id ∈ ids, ∃ c, X.hp[id]? = some c ∧ c.live = true := fun id hid => by
          obtain ⟨v, hv, hid⟩ := List.mem_flatMap.1 hid
          obtain ⟨c, hc, hl⟩ := hsub v hv id hid
          exact ⟨c, at_.sub _ _ hc, hl⟩
        have getNew : ∀ i b, Y.hp[i]? = some b → (asg X.hp L)[fresh + i]? = some (b.ren fun i => some (fresh + i)) := fun i b hb => by
          have hi := (List.getElem?_eq_some_iff.1 hb).1
          refine asg_in L _ _ _ (fun q hq hqi => ?_) ⟨(fresh + i, b.ren fun i => some (fresh + i)), List.mem_append.2 (.inr ?_), rfl⟩
          · rcases goneIn q hq with ⟨_, hid, _⟩ | ⟨i', b', hb', rfl⟩
            · obtain ⟨c, hc, hl⟩ := idsX _ hid
              exact absurd hqi ((newUn i hi).ne hc (live_not_free hl))
            · have : i' = i := by simp only at hqi; omega
              subst this; rw [hb] at hb'; cases hb'; rfl
          · simp only [List.mem_map]
            exact ⟨(b, i), by rw [List.mem_zipIdx_iff_getElem?]; exact hb, rfl⟩
        have getGone : ∀ id ∈ ids, sl = true → (asg X.hp L)[id]? = some .gone := fun id hid hs => by
          refine asg_in L _ _ _ (fun q hq hqi => ?_) ⟨(id, .gone), List.mem_append.2 (.inl ?_), rfl⟩
          · rcases goneIn q hq with ⟨_, _, h⟩ | ⟨i', b', hb', rfl⟩
            · exact h
            · obtain ⟨c, hc, hl⟩ := idsX _ hid
              exact absurd hqi.symm ((newUn i' (List.getElem?_eq_some_iff.1 hb').1).ne hc (live_not_free hl))
          · rw [hs]; simp only [cond_true, List.mem_map]; exact ⟨id, hid, rfl⟩
        have getOld : ∀ id b, X.hp[id]? = some b → b ≠ .free → (sl = true → id ∉ ids) → (asg X.hp L)[id]? = some b := fun id b hb hn hs => by
          refine asg_out L _ _ _ (fun q hq hqi => ?_) hb
          rcases goneIn q hq with ⟨h1, h2, _⟩ | ⟨i', b', hb', rfl⟩
          · exact hs h1 (hqi ▸ h2)
          · exact (newUn i' (List.getElem?_eq_some_iff.1 hb').1).ne hb hn hqi.symm
        have notNew : ∀ id b, X.hp[id]? = some b → b ≠ .free → ¬ (fresh ≤ id ∧ id < fresh + Y.hp.length) := fun id b hb hn hh => by
          have := newUn (id - fresh) (by omega)
          exact this.ne hb hn (by omega)
        have ρOld : ∀ id b, X.hp[id]? = some b → b ≠ .free → Z.ρ id = X.ρ id := fun id b hb hn => if_neg (notNew id b hb hn)
        have ρNew : ∀ i, i < Y.hp.length → Z.ρ (fresh + i) = Y.ρ i := fun i hi => by
          show (if _ then _ else _) = _
          rw [if_pos ⟨Nat.le_add_right _ _, Nat.add_lt_add_left hi _⟩, Nat.add_sub_cancel_left]
        have cs : ∀ id c, (asg X.hp L)[id]? = some c → c.live = true → (∃ i b, Y.hp[i]? = some b ∧ b.live = true ∧ id = fresh + i ∧ c = b.ren fun i => some (fresh + i)) ∨ (X.hp[id]? = some c ∧ (sl = true → id ∉ ids)) := fun id c hc hl => by
          rcases asg_cases L _ _ _ hc with ⟨q, hq, rfl, rfl⟩ | ⟨hq, h | rfl⟩
          · rcases goneIn q hq with ⟨_, _, h⟩ | ⟨i', b', hb', rfl⟩
            · rw [h] at hl; cases hl
            · exact .inl ⟨i', b', hb', by rw [← BlkEvo.ren]; exact hl, rfl, rfl⟩
          · exact .inr ⟨h, fun hs hid => by have := getGone id hid hs; rw [this] at hc; cases hc; cases hl⟩
          · cases hl
        have x0own : ∀ b, ¬ (X0 F1 X.w).Own b := fun b ⟨id, blk, h, _⟩ => by simp [X0] at h
        have yown : ∀ b, Y.Own b → X.w.heap.size ≤ b := fun b hb => Nat.le_of_not_lt fun hlt => x0own b (W.own b hlt hb)
        have Wk : ∀ b, b < X.w.heap.size → Y.w.heap[b]? = X.w.heap[b]? := fun b hb => W.keep b hb (x0own b)
        have zown : ∀ b, Z.Own b → (∃ i blk, Y.hp[i]? = some blk ∧ blk.live = true ∧ Y.ρ i = some b) ∨ ∃ id blk, X.hp[id]? = some blk ∧ blk.live = true ∧ X.ρ id = some b ∧ (sl = true → id ∉ ids) := fun b ⟨id, blk, h1, h2, h3⟩ => by
          rcases cs id blk h1 h2 with ⟨i, b', g1, g2, rfl, rfl⟩ | ⟨g1, g2⟩
          · rw [ρNew i (List.getElem?_eq_some_iff.1 g1).1] at h3
            exact .inl ⟨i, b', g1, g2, h3⟩
          · rw [ρOld id blk g1 (live_not_free h2)] at h3
            exact .inr ⟨id, blk, g1, h2, h3, g2⟩
        have WZ : WEvo X Z := by
          refine ⟨W.os, W.tape, W.output, W.size, W.shape, fun b hb _ => Wk b hb, fun b hb ho => ?_, fun b hb => ?_, fun b hb => ?_⟩
          · rcases zown b ho with ⟨i, blk, g1, g2, g3⟩ | ⟨id, blk, g1, g2, g3, _⟩
            · have := yown b ⟨i, blk, g1, g2, g3⟩; omega
            · exact ⟨id, blk, g1, g2, g3⟩
          · show if sl = true then _ else _
            split
            · exact W.fmono b (.inl hb)
            · exact hb
          · have hb : if sl = true then Y.F b else X.F b := hb
            split at hb
            · rcases W.fnew b hb with (h1 | ⟨id, _, blk, h1, h2, h3⟩) | h1 | h1
              · exact .inl h1
              · exact .inr (.inl ⟨id, blk, h1, h2, h3⟩)
              · exact absurd h1 (x0own b)
              · exact .inr (.inr h1)
            · exact .inl hb
        have HZ : HEvo X Z := by
          refine ⟨fun id b hb hn => ?_, fun id b hb hn => ρOld id b hb hn⟩
          by_cases hg : sl = true ∧ id ∈ ids
          · exact ⟨.gone, getGone id hg.2 hg.1, .gone _⟩
          · exact ⟨b, getOld id b hb hn fun h1 h2 => hg ⟨h1, h2⟩, .refl hn⟩
        have EM : Emb Y Z (fun i => some (fresh + i)) sl := by
          refine ⟨fun id i b hf hb => ?_, fun id i b hf hb => ?_, rfl, fun hs b hb => ?_⟩
          · simp only [Option.some.injEq] at hf; subst hf; exact getNew id b hb
          · simp only [Option.some.injEq] at hf; subst hf; exact ρNew id (List.getElem?_eq_some_iff.1 hb).1
          · show if sl = true then _ else _
            rw [if_pos hs]; exact hb
        refine hk Z u rfl (RS.emb EM (fun h => by rw [← hsl, h]; rfl) hru) ⟨fun id b hb => ?_, fun id id' b c c' h1 h2 h3 h4 h5 h6 => ?_, fun b hb => ?_⟩ WZ HZ
        · by_cases hl : b.live = true
          · rcases cs id b hb hl with ⟨i, b', g1, g2, rfl, rfl⟩ | ⟨g1, g2⟩
            · refine RB.emb EM rfl g1 (fun h => ?_) (okY.blk i b' g1)
              rw [← hsl, Bool.or_eq_true]; right
              rw [List.any_eq_true]; exact ⟨b', List.mem_of_getElem? g1, h⟩
            · exact (at_.ok.blk id b g1).evo WZ HZ at_.ok.fo (ρOld id b g1 (live_not_free hl)) fun _ n hn => Wk n (at_.ok.lt ⟨id, b, g1, hl, hn⟩)
          · cases b <;> first | trivial | (simp [Blk.live] at hl)
        · rcases cs id c h1 h2 with ⟨i, b1, g1, g2, rfl, rfl⟩ | ⟨g1, _⟩
          · rw [ρNew i (List.getElem?_eq_some_iff.1 g1).1] at h5
            rcases cs id' c' h3 h4 with ⟨i', b2, k1, k2, rfl, rfl⟩ | ⟨k1, _⟩
            · rw [ρNew i' (List.getElem?_eq_some_iff.1 k1).1] at h6
              rw [okY.inj i i' b b1 b2 g1 g2 k1 k2 h5 h6]
            · rw [ρOld id' c' k1 (live_not_free h4)] at h6
              have := yown b ⟨i, b1, g1, g2, h5⟩
              have := at_.ok.lt ⟨id', c', k1, h4, h6⟩
              omega
          · rw [ρOld id c g1 (live_not_free h2)] at h5
            rcases cs id' c' h3 h4 with ⟨i', b2, k1, k2, rfl, rfl⟩ | ⟨k1, _⟩
            · rw [ρNew i' (List.getElem?_eq_some_iff.1 k1).1] at h6
              have := yown b ⟨i', b2, k1, k2, h6⟩
              have := at_.ok.lt ⟨id, c, g1, h2, h5⟩
              omega
            · rw [ρOld id' c' k1 (live_not_free h4)] at h6
              exact at_.ok.inj id id' b c c' g1 h2 k1 h4 h5 h6
        · have hb : if sl = true then Y.F b else X.F b := hb
          split at hb
          · rename_i hs
            refine ⟨(okY.fo b hb).1, fun ho => ?_⟩
            rcases zown b ho with ⟨i, blk, g1, g2, g3⟩ | ⟨id, blk, g1, g2, g3, g4⟩
            · exact (okY.fo b hb).2 ⟨i, blk, g1, g2, g3⟩
            · rcases W.fnew b hb with (h1 | ⟨id', hid, blk', h1, h2, h3⟩) | h1 | h1
              · exact (at_.ok.fo b h1).2 ⟨id, blk, g1, g2, g3⟩
              · exact g4 hs (at_.ok.inj id id' b blk blk' g1 g2 h1 h2 g3 h3 ▸ hid)
              · exact x0own b h1
              · have h1 : X.w.heap.size ≤ b := h1
                have := at_.ok.lt ⟨id, blk, g1, g2, g3⟩
                omega
          · refine ⟨Nat.lt_of_lt_of_le (at_.ok.fo b hb).1 W.size, fun ho => ?_⟩
            rcases zown b ho with ⟨i, blk, g1, g2, g3⟩ | ⟨id, blk, g1, g2, g3, g4⟩
            · have := yown b ⟨i, blk, g1, g2, g3⟩
              have := (at_.ok.fo b hb).1
              omega
            · exact (at_.ok.fo b hb).2 ⟨id, blk, g1, g2, g3⟩
      obtain ⟨nx, w1, hrun, hcase⟩ := hap
      have hexec : (execOp a.eval o).run P X.w = .ok nx w1 := by
        simp only [execOp, ho, resolve, hc, Act.eval, Deferred.ofValue, Sem.run_bind, Sem.run_pure, Result.andThen_ok, invoke, Array.append_empty, Array.empty_append]
        exact hrun
      unfold Oper.wp
      rw [hexec]
      rcases hcase with ⟨u, rfl, hu⟩ | ⟨rfl, hcalls⟩
      · exact fin u w1 hu
      · exact hcalls.mono fun e w' ⟨u, he, hu⟩ => by subst he; exact fin u w' hu

end
end Go.Ev
