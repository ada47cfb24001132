/-
  REGIONS WHOSE ORDER IS DRAWN: operations that do not wait for each other do not meet either.
-/
import Derived.Test.YtonpbpkkepacpaaFvT
import Derived.Orders
set_option linter.all false
namespace Go.Ev

def Stp.act (p : Stp) (s : St) : St := if p.on then { (s.put p.o.dst p.v) with hp := asg s.hp p.l } else s.put p.o.dst (.tup [])

/-- The state behind some of the operations. -/
def app (S : Nat → Bool) : Nat → List Stp → St → St
  | _, [], s => s
  | i, p :: ps, s => app S (i + 1) ps (if S i then p.act s else s)

theorem Stp.next_act (p : Stp) : p.next = p.act p.s := rfl

theorem app_all {P : Program} {gl : GL} {ops : Array Oper} : ∀ {os : List Oper} {s s' : St} {ps : List Stp}, Chain P gl ops os s ps s' → ∀ i, app (fun _ => true) i ps s = s'
  | _, _, _, _, .nil s, _ => rfl
  | _, _, _, _, .cons h1 h2 h3 h4 h5, i => by
    subst h2
    simp only [app, if_true]
    exact app_all h5 (i + 1)

theorem app_none (S : Nat → Bool) : ∀ (ps : List Stp) (i : Nat) (s : St), (∀ k, i ≤ k → S k = false) → app S i ps s = s
  | [], _, _, _ => rfl
  | p :: ps, i, s, h => by
    simp only [app, h i (Nat.le_refl _), Bool.false_eq_true, if_false]
    exact app_none S ps (i + 1) s fun k hk => h k (by omega)

theorem chain_at {P : Program} {gl : GL} {ops : Array Oper} : ∀ {os : List Oper} {s s' : St} {ps : List Stp}, Chain P gl ops os s ps s' → ∀ (i j : Nat) (p : Stp), ps[j]? = some p →
    os[j]? = some p.o ∧ p.s = app (fun k => decide (k < i + j)) i ps s ∧ GuardOK ops p.o p.s p.on ∧ (p.on = true → OpSem P p.o (St.ev gl p.s) (p.s.sub p.o) p.s.hp.length p.v p.l)
  | _, _, _, _, .nil s, _, _, _, h => by simp at h
  | _, _, _, _, @Chain.cons _ _ _ o r s s' p ps h1 h2 h3 h4 h5, i, j, p', h => by
    subst h1; subst h2
    cases j with
    | zero =>
      simp at h; subst h
      refine ⟨rfl, ?_, h3, h4⟩
      exact (app_none _ _ i p.s fun k hk => by simp; omega).symm
    | succ j =>
      simp at h
      obtain ⟨g1, g2, g3, g4⟩ := chain_at h5 (i + 1) j p' h
      refine ⟨by simpa using g1, ?_, g3, g4⟩
      rw [g2]
      simp only [app, show i < i + (j + 1) by omega, decide_true, if_true, show i + 1 + j = i + (j + 1) by omega]
      rfl

theorem chain_len {P : Program} {gl : GL} {ops : Array Oper} : ∀ {os : List Oper} {s s' : St} {ps : List Stp}, Chain P gl ops os s ps s' → ps.length = os.length
  | _, _, _, _, .nil s => rfl
  | _, _, _, _, .cons h1 h2 h3 h4 h5 => by simp [chain_len h5]

-- ------------------------------------------------------------ places

def hget (hp : List Blk) (id : Nat) : Blk := (hp[id]?).getD .free

theorem hget_set (hp : List Blk) (id : Nat) (b : Blk) (j : Nat) : hget (hpSet hp id b) j = if j = id then b else hget hp j := by
  unfold hget
  rw [hpSet_get]
  split
  · rfl
  · split
    · rfl
    · rename_i h
      rw [List.getElem?_eq_none (by omega)]
      split <;> rfl

theorem hget_asg : ∀ (L : List (Nat × Blk)) (hp hp' : List Blk) (j : Nat), hget hp j = hget hp' j → hget (asg hp L) j = hget (asg hp' L) j
  | [], _, _, _, h => h
  | q :: L, hp, hp', j, h => hget_asg L _ _ j (by rw [hget_set, hget_set, h])

theorem hget_asg_out : ∀ (L : List (Nat × Blk)) (hp : List Blk) (j : Nat), (∀ q ∈ L, q.1 ≠ j) → hget (asg hp L) j = hget hp j
  | [], _, _, _ => rfl
  | q :: L, hp, j, h => by
    show hget (asg (hpSet hp q.1 q.2) L) j = _
    rw [hget_asg_out L _ j fun p hp => h p (by simp [hp]), hget_set, if_neg (Ne.symm (h q (by simp)))]

theorem hpSet_comm (hp : List Blk) {i j : Nat} (b c : Blk) (h : i ≠ j) : hpSet (hpSet hp i b) j c = hpSet (hpSet hp j c) i b := by
  have len : ∀ (hp : List Blk) (i : Nat) (b : Blk), (hpSet hp i b).length = max hp.length (i + 1) := fun hp i b => by
    unfold hpSet; split <;> simp <;> omega
  refine List.ext_getElem? fun k => ?_
  rw [hpSet_get, hpSet_get, hpSet_get, hpSet_get, len, len]
  by_cases h1 : k = j
  · subst h1
    rw [if_pos rfl, if_neg (Ne.symm h), if_pos rfl]
    rw [if_pos (by omega)]
  · by_cases h2 : k = i
    · subst h2
      rw [if_neg h1, if_pos rfl, if_pos rfl, if_pos (by omega)]
    · rw [if_neg h1, if_neg h2, if_neg h2, if_neg h1]
      repeat' split
      all_goals first | rfl | omega

theorem asg_hpSet_comm : ∀ (L : List (Nat × Blk)) (hp : List Blk) (i : Nat) (b : Blk), (∀ q ∈ L, q.1 ≠ i) → asg (hpSet hp i b) L = hpSet (asg hp L) i b
  | [], _, _, _, _ => rfl
  | q :: L, hp, i, b, h => by
    show asg (hpSet (hpSet hp i b) q.1 q.2) L = hpSet (asg (hpSet hp q.1 q.2) L) i b
    rw [hpSet_comm _ _ _ (Ne.symm (h q (by simp))), asg_hpSet_comm L _ i b fun p hp => h p (by simp [hp])]

theorem asg_comm : ∀ (L M : List (Nat × Blk)) (hp : List Blk), (∀ q ∈ L, ∀ p ∈ M, p.1 ≠ q.1) → asg (asg hp L) M = asg (asg hp M) L
  | [], _, _, _ => rfl
  | q :: L, M, hp, h => by
    show asg (asg (hpSet hp q.1 q.2) L) M = asg (hpSet (asg hp M) q.1 q.2) L
    rw [asg_comm L M _ fun q hq => h q (by simp [hq]), asg_hpSet_comm M hp _ _ fun p hp => h q (by simp) p hp]

theorem St.put_comm (s : St) {d e : Option Tmp} (v u : AV) (h : ∀ x, d = some x → e ≠ some x) : (s.put d v).put e u = (s.put e u).put d v := by
  cases d with
  | none => rfl
  | some d =>
    cases e with
    | none => rfl
    | some e =>
      have hne : d ≠ e := fun he => h d rfl (he ▸ rfl)
      simp only [St.put]
      rw [List.set_comm _ _ hne]

/-- What a step writes. -/
def Stp.wids (p : Stp) : List Nat := if p.on then p.l.map (·.1) else []

def setd (tm : List AV) (d : Option Tmp) (v : AV) : List AV := match d with | some d => tm.set d v | none => tm

theorem act_eq (p : Stp) (s : St) : p.act s = ⟨setd s.tm p.o.dst (if p.on then p.v else .tup []), if p.on then asg s.hp p.l else s.hp, s.m⟩ := by
  unfold Stp.act
  cases p.on <;> cases hd : p.o.dst <;> rfl

theorem setd_comm (tm : List AV) {d e : Option Tmp} (v u : AV) (h : ∀ x, d = some x → e ≠ some x) : setd (setd tm d v) e u = setd (setd tm e u) d v := by
  cases d with
  | none => rfl
  | some d =>
    cases e with
    | none => rfl
    | some e =>
      have hne : d ≠ e := fun he => h d rfl (he ▸ rfl)
      simp only [setd]
      rw [List.set_comm _ _ hne]

theorem act_comm {p q : Stp} (s : St) (h1 : ∀ d, p.o.dst = some d → q.o.dst ≠ some d) (h2 : ∀ i ∈ p.wids, i ∉ q.wids) : p.act (q.act s) = q.act (p.act s) := by
  rw [act_eq, act_eq, act_eq, act_eq]
  simp only
  rw [setd_comm s.tm (d := p.o.dst) (e := q.o.dst) _ _ h1]
  congr 1
  cases hpo : p.on <;> cases hqo : q.on <;> simp only [Bool.false_eq_true, if_false, if_true]
  refine asg_comm _ _ _ fun a ha b hb hab => ?_
  refine h2 b.1 ?_ ?_
  · simp only [Stp.wids, hpo, if_true, List.mem_map]; exact ⟨b, hb, rfl⟩
  · simp only [Stp.wids, hqo, if_true, List.mem_map]; exact ⟨a, ha, hab.symm⟩

theorem app_comm {q : Stp} {S : Nat → Bool} : ∀ (ps : List Stp) (i : Nat) (s : St), (∀ k p, ps[k]? = some p → S (i + k) = true → (∀ d, p.o.dst = some d → q.o.dst ≠ some d) ∧ ∀ x ∈ p.wids, x ∉ q.wids) →
    app S i ps (q.act s) = q.act (app S i ps s)
  | [], _, _, _ => rfl
  | p :: ps, i, s, h => by
    simp only [app]
    have ih := fun s => app_comm ps (i + 1) s fun k p' hk hs => h (k + 1) p' (by simpa using hk) (by rw [← hs]; congr 1; omega)
    cases hS : S i with
    | false => simp only [Bool.false_eq_true, if_false]; exact ih s
    | true =>
      simp only [if_true]
      obtain ⟨g1, g2⟩ := h 0 p (by simp) hS
      rw [act_comm s g1 g2]
      exact ih _

theorem app_add {S S' : Nat → Bool} : ∀ (ps : List Stp) (i j : Nat) (s : St) (q : Stp), ps[j]? = some q → S (i + j) = false → S' (i + j) = true → (∀ k, k ≠ i + j → S' k = S k) →
    (∀ k p, ps[k]? = some p → j < k → S (i + k) = true → (∀ d, p.o.dst = some d → q.o.dst ≠ some d) ∧ ∀ x ∈ p.wids, x ∉ q.wids) → app S' i ps s = q.act (app S i ps s)
  | [], _, _, _, _, h, _, _, _, _ => by simp at h
  | p :: ps, i, j, s, q, h, h1, h2, h3, h4 => by
    simp only [app]
    cases j with
    | zero =>
      simp at h; subst h
      simp only [Nat.add_zero] at h1 h2 h3
      simp only [h1, h2, if_true, Bool.false_eq_true, if_false]
      have e : ∀ (ps : List Stp) (k : Nat) (s : St), i < k → app S' k ps s = app S k ps s := fun ps => by
        induction ps with
        | nil => intro k s _; rfl
        | cons p ps ih => intro k s hk; simp only [app]; rw [h3 k (by omega), ih (k + 1) _ (by omega)]
      rw [e _ _ _ (Nat.lt_succ_self i)]
      exact app_comm ps (i + 1) s fun k p' hk hs => h4 (k + 1) p' (by simpa using hk) (by omega) (by rw [← hs]; congr 1; omega)
    | succ j =>
      simp at h
      rw [h3 i (by omega)]
      exact app_add ps (i + 1) j _ q h (by rw [← h1]; congr 1; omega) (by rw [← h2]; congr 1; omega) (fun k hk => h3 k (by omega))
        fun k p' hk hjk hs => h4 (k + 1) p' (by simpa using hk) (by omega) (by rw [← hs]; congr 1; omega)

theorem app_tm {S S' : Nat → Bool} {t : Nat} : ∀ (ps : List Stp) (i : Nat) (s s' : St), (∀ k p, ps[k]? = some p → p.o.dst = some t → S (i + k) = S' (i + k)) → s.tm[t]? = s'.tm[t]? → (app S i ps s).tm[t]? = (app S' i ps s').tm[t]?
  | [], _, _, _, _, h => h
  | p :: ps, i, s, s', h, hs => by
    simp only [app]
    refine app_tm ps (i + 1) _ _ (fun k p' hk hd => by have := h (k + 1) p' (by simpa using hk) hd; rw [show i + 1 + k = i + (k + 1) by omega]; exact this) ?_
    have one : ∀ (s : St), p.o.dst ≠ some t → (p.act s).tm[t]? = s.tm[t]? := fun s hd => by
      unfold Stp.act
      have e : ∀ v, (s.put p.o.dst v).tm[t]? = s.tm[t]? := fun v => by
        cases hdd : p.o.dst with
        | none => rfl
        | some d => simp only [St.put]; rw [List.getElem?_set_ne]; intro e; rw [hdd, e] at hd; exact hd rfl
      cases p.on <;> exact e _
    by_cases hd : p.o.dst = some t
    · have hS := h 0 p (by simp) hd
      simp only [Nat.add_zero] at hS
      rw [hS]
      cases S' i with
      | false => exact hs
      | true =>
        simp only [if_true]
        have hlt : t < s.tm.length ↔ t < s'.tm.length := by
          constructor
          · intro hl
            rw [List.getElem?_eq_getElem hl] at hs
            exact (List.getElem?_eq_some_iff.1 hs.symm).1
          · intro hl
            rw [List.getElem?_eq_getElem hl] at hs
            exact (List.getElem?_eq_some_iff.1 hs).1
        have e : ∀ v, (s.put p.o.dst v).tm[t]? = (s'.put p.o.dst v).tm[t]? := fun v => by
          simp only [hd, St.put, List.getElem?_set, if_true]
          by_cases hl : t < s.tm.length
          · rw [if_pos hl, if_pos (hlt.1 hl)]
          · rw [if_neg hl, if_neg (fun h => hl (hlt.2 h))]
        unfold Stp.act
        cases p.on <;> exact e _
    · have e1 : (if S i then p.act s else s).tm[t]? = s.tm[t]? := by split; exact one s hd; rfl
      have e2 : (if S' i then p.act s' else s').tm[t]? = s'.tm[t]? := by split; exact one s' hd; rfl
      rw [e1, e2]; exact hs

theorem act_hp (p : Stp) (s : St) : (p.act s).hp = if p.on then asg s.hp p.l else s.hp := by
  unfold Stp.act
  cases p.on
  · cases p.o.dst <;> rfl
  · rfl

theorem app_hp {S S' : Nat → Bool} {id : Nat} : ∀ (ps : List Stp) (i : Nat) (s s' : St), (∀ k p, ps[k]? = some p → id ∈ p.wids → S (i + k) = S' (i + k)) → hget s.hp id = hget s'.hp id → hget (app S i ps s).hp id = hget (app S' i ps s').hp id
  | [], _, _, _, _, h => h
  | p :: ps, i, s, s', h, hs => by
    simp only [app]
    refine app_hp ps (i + 1) _ _ (fun k p' hk hd => by have := h (k + 1) p' (by simpa using hk) hd; rw [show i + 1 + k = i + (k + 1) by omega]; exact this) ?_
    by_cases hd : id ∈ p.wids
    · have hS := h 0 p (by simp) hd
      simp only [Nat.add_zero] at hS
      rw [hS]
      cases S' i with
      | false => exact hs
      | true =>
        simp only [if_true, act_hp]
        cases p.on
        · exact hs
        · exact hget_asg _ _ _ _ hs
    · have one : ∀ (s : St), hget (p.act s).hp id = hget s.hp id := fun s => by
        rw [act_hp]
        cases hon : p.on
        · rfl
        · refine hget_asg_out _ _ _ fun q hq e => hd ?_
          simp only [Stp.wids, hon, if_true, List.mem_map]; exact ⟨q, hq, e⟩
      have e1 : hget (if S i then p.act s else s).hp id = hget s.hp id := by split; exact one s; rfl
      have e2 : hget (if S' i then p.act s' else s').hp id = hget s'.hp id := by split; exact one s'; rfl
      rw [e1, e2]; exact hs

end Go.Ev
