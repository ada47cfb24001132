import Derived.Test.YtbjoemlcakfkmaaDoorB3
import Derived.Orders
import Derived.LoopN
import Derived.Conc.MuLone
import Derived.ChangeMaps5
import Derived.RowKit
import Derived.WideShapes
import Derived.ChangeShapes
import Derived.Below
import Derived.ProofKit
import Derived.OpenShut
import Derived.ShutString
import Derived.ChangeOld
import Derived.Laws.Externs
import Derived.FnData
import Derived.MakeChecks
set_option linter.all false
section
/-
  REGIONS WHOSE ORDER IS DRAWN: operations that do not wait for each other do not meet either.
-/
namespace Go.Ev

def Stp.act (p : Stp) (s : St) : St := if p.on then { (s.put p.o.dst p.v) with hp := asg s.hp p.l } else s.put p.o.dst (.tup [])

/-- The state behind some of the operations. -/
def app (S : Nat → Bool) : Nat → List Stp → St → St
  | _, [], s => s
  | i, p :: ps, s => app S (i + 1) ps (if S i then p.act s else s)

theorem Stp.next_act (p : Stp) : p.next = p.act p.s := rfl

theorem app_all {P : Program} {gl : GL} {ops : Array Oper} : ∀ {os : List Oper} {s s' : St} {ps : List Stp}, Chain P gl ops os s ps s' → ∀ i, app (fun _ => true) i ps s = s'
  | _, _, _, _, .nil s, _ => rfl
  | _, _, _, _, .cons h1 h2 h3 h4 h5, i => by
    subst h2
    simp only [app, if_true]
    exact app_all h5 (i + 1)

theorem app_none (S : Nat → Bool) : ∀ (ps : List Stp) (i : Nat) (s : St), (∀ k, i ≤ k → S k = false) → app S i ps s = s
  | [], _, _, _ => rfl
  | p :: ps, i, s, h => by
    simp only [app, h i (Nat.le_refl _), Bool.false_eq_true, if_false]
    exact app_none S ps (i + 1) s fun k hk => h k (by omega)

theorem chain_at {P : Program} {gl : GL} {ops : Array Oper} : ∀ {os : List Oper} {s s' : St} {ps : List Stp}, Chain P gl ops os s ps s' → ∀ (i j : Nat) (p : Stp), ps[j]? = some p →
    os[j]? = some p.o ∧ p.s = app (fun k => decide (k < i + j)) i ps s ∧ GuardOK ops p.o p.s p.on ∧ (p.on = true → OpSem P p.o (St.ev gl p.s) (p.s.sub p.o) p.s.hp.length p.v p.l ∧ Extra P p.o (St.ev gl p.s) (p.s.sub p.o) p.s.hp.length p.v p.l)
  | _, _, _, _, .nil s, _, _, _, h => by simp at h
  | _, _, _, _, @Chain.cons _ _ _ o r s s' p ps h1 h2 h3 h4 h5, i, j, p', h => by
    subst h1; subst h2
    cases j with
    | zero =>
      simp at h; subst h
      refine ⟨rfl, ?_, h3, h4⟩
      exact (app_none _ _ i p.s fun k hk => by simp; omega).symm
    | succ j =>
      simp at h
      obtain ⟨g1, g2, g3, g4⟩ := chain_at h5 (i + 1) j p' h
      refine ⟨by simpa using g1, ?_, g3, g4⟩
      rw [g2]
      simp only [app, show i < i + (j + 1) by omega, decide_true, if_true, show i + 1 + j = i + (j + 1) by omega]
      rfl

theorem chain_len {P : Program} {gl : GL} {ops : Array Oper} : ∀ {os : List Oper} {s s' : St} {ps : List Stp}, Chain P gl ops os s ps s' → ps.length = os.length
  | _, _, _, _, .nil s => rfl
  | _, _, _, _, .cons h1 h2 h3 h4 h5 => by simp [chain_len h5]

-- ------------------------------------------------------------ places

def hget (hp : List Blk) (id : Nat) : Blk := (hp[id]?).getD .free

theorem hget_set (hp : List Blk) (id : Nat) (b : Blk) (j : Nat) : hget (hpSet hp id b) j = if j = id then b else hget hp j := by
  unfold hget
  rw [hpSet_get]
  split
  · rfl
  · split
    · rfl
    · rename_i h
      rw [List.getElem?_eq_none (by omega)]
      split <;> rfl

theorem hget_asg : ∀ (L : List (Nat × Blk)) (hp hp' : List Blk) (j : Nat), hget hp j = hget hp' j → hget (asg hp L) j = hget (asg hp' L) j
  | [], _, _, _, h => h
  | q :: L, hp, hp', j, h => hget_asg L _ _ j (by rw [hget_set, hget_set, h])

theorem hget_asg_out : ∀ (L : List (Nat × Blk)) (hp : List Blk) (j : Nat), (∀ q ∈ L, q.1 ≠ j) → hget (asg hp L) j = hget hp j
  | [], _, _, _ => rfl
  | q :: L, hp, j, h => by
    show hget (asg (hpSet hp q.1 q.2) L) j = _
    rw [hget_asg_out L _ j fun p hp => h p (by simp [hp]), hget_set, if_neg (Ne.symm (h q (by simp)))]

theorem hpSet_comm (hp : List Blk) {i j : Nat} (b c : Blk) (h : i ≠ j) : hpSet (hpSet hp i b) j c = hpSet (hpSet hp j c) i b := by
  have len : ∀ (hp : List Blk) (i : Nat) (b : Blk), (hpSet hp i b).length = max hp.length (i + 1) := fun hp i b => by
    unfold hpSet; split <;> simp <;> omega
  refine List.ext_getElem? fun k => ?_
  rw [hpSet_get, hpSet_get, hpSet_get, hpSet_get, len, len]
  by_cases h1 : k = j
  · subst h1
    rw [if_pos rfl, if_neg (Ne.symm h), if_pos rfl]
    rw [if_pos (by omega)]
  · by_cases h2 : k = i
    · subst h2
      rw [if_neg h1, if_pos rfl, if_pos rfl, if_pos (by omega)]
    · rw [if_neg h1, if_neg h2, if_neg h2, if_neg h1]
      repeat' split
      all_goals first | rfl | omega

theorem asg_hpSet_comm : ∀ (L : List (Nat × Blk)) (hp : List Blk) (i : Nat) (b : Blk), (∀ q ∈ L, q.1 ≠ i) → asg (hpSet hp i b) L = hpSet (asg hp L) i b
  | [], _, _, _, _ => rfl
  | q :: L, hp, i, b, h => by
    show asg (hpSet (hpSet hp i b) q.1 q.2) L = hpSet (asg (hpSet hp q.1 q.2) L) i b
    rw [hpSet_comm _ _ _ (Ne.symm (h q (by simp))), asg_hpSet_comm L _ i b fun p hp => h p (by simp [hp])]

theorem asg_comm : ∀ (L M : List (Nat × Blk)) (hp : List Blk), (∀ q ∈ L, ∀ p ∈ M, p.1 ≠ q.1) → asg (asg hp L) M = asg (asg hp M) L
  | [], _, _, _ => rfl
  | q :: L, M, hp, h => by
    show asg (asg (hpSet hp q.1 q.2) L) M = asg (hpSet (asg hp M) q.1 q.2) L
    rw [asg_comm L M _ fun q hq => h q (by simp [hq]), asg_hpSet_comm M hp _ _ fun p hp => h q (by simp) p hp]

theorem St.put_comm (s : St) {d e : Option Tmp} (v u : AV) (h : ∀ x, d = some x → e ≠ some x) : (s.put d v).put e u = (s.put e u).put d v := by
  cases d with
  | none => rfl
  | some d =>
    cases e with
    | none => rfl
    | some e =>
      have hne : d ≠ e := fun he => h d rfl (he ▸ rfl)
      simp only [St.put]
      rw [List.set_comm _ _ hne]

/-- What a step writes. -/
def Stp.wids (p : Stp) : List Nat := if p.on then p.l.map (·.1) else []

def setd (tm : List AV) (d : Option Tmp) (v : AV) : List AV := match d with | some d => tm.set d v | none => tm

theorem act_eq (p : Stp) (s : St) : p.act s = ⟨setd s.tm p.o.dst (if p.on then p.v else .tup []), if p.on then asg s.hp p.l else s.hp, s.m⟩ := by
  unfold Stp.act
  cases p.on <;> cases hd : p.o.dst <;> rfl

theorem setd_comm (tm : List AV) {d e : Option Tmp} (v u : AV) (h : ∀ x, d = some x → e ≠ some x) : setd (setd tm d v) e u = setd (setd tm e u) d v := by
  cases d with
  | none => rfl
  | some d =>
    cases e with
    | none => rfl
    | some e =>
      have hne : d ≠ e := fun he => h d rfl (he ▸ rfl)
      simp only [setd]
      rw [List.set_comm _ _ hne]

theorem act_comm {p q : Stp} (s : St) (h1 : ∀ d, p.o.dst = some d → q.o.dst ≠ some d) (h2 : ∀ i ∈ p.wids, i ∉ q.wids) : p.act (q.act s) = q.act (p.act s) := by
  rw [act_eq, act_eq, act_eq, act_eq]
  simp only
  rw [setd_comm s.tm (d := p.o.dst) (e := q.o.dst) _ _ h1]
  congr 1
  cases hpo : p.on <;> cases hqo : q.on <;> simp only [Bool.false_eq_true, if_false, if_true]
  refine asg_comm _ _ _ fun a ha b hb hab => ?_
  refine h2 b.1 ?_ ?_
  · simp only [Stp.wids, hpo, if_true, List.mem_map]; exact ⟨b, hb, rfl⟩
  · simp only [Stp.wids, hqo, if_true, List.mem_map]; exact ⟨a, ha, hab.symm⟩

theorem app_comm {q : Stp} {S : Nat → Bool} : ∀ (ps : List Stp) (i : Nat) (s : St), (∀ k p, ps[k]? = some p → S (i + k) = true → (∀ d, p.o.dst = some d → q.o.dst ≠ some d) ∧ ∀ x ∈ p.wids, x ∉ q.wids) →
    app S i ps (q.act s) = q.act (app S i ps s)
  | [], _, _, _ => rfl
  | p :: ps, i, s, h => by
    simp only [app]
    have ih := fun s => app_comm ps (i + 1) s fun k p' hk hs => h (k + 1) p' (by simpa using hk) (by rw [← hs]; congr 1; omega)
    cases hS : S i with
    | false => simp only [Bool.false_eq_true, if_false]; exact ih s
    | true =>
      simp only [if_true]
      obtain ⟨g1, g2⟩ := h 0 p (by simp) hS
      rw [act_comm s g1 g2]
      exact ih _

theorem app_add {S S' : Nat → Bool} : ∀ (ps : List Stp) (i j : Nat) (s : St) (q : Stp), ps[j]? = some q → S (i + j) = false → S' (i + j) = true → (∀ k, k ≠ i + j → S' k = S k) →
    (∀ k p, ps[k]? = some p → j < k → S (i + k) = true → (∀ d, p.o.dst = some d → q.o.dst ≠ some d) ∧ ∀ x ∈ p.wids, x ∉ q.wids) → app S' i ps s = q.act (app S i ps s)
  | [], _, _, _, _, h, _, _, _, _ => by simp at h
  | p :: ps, i, j, s, q, h, h1, h2, h3, h4 => by
    simp only [app]
    cases j with
    | zero =>
      simp at h; subst h
      simp only [Nat.add_zero] at h1 h2 h3
      simp only [h1, h2, if_true, Bool.false_eq_true, if_false]
      have e : ∀ (ps : List Stp) (k : Nat) (s : St), i < k → app S' k ps s = app S k ps s := fun ps => by
        induction ps with
        | nil => intro k s _; rfl
        | cons p ps ih => intro k s hk; simp only [app]; rw [h3 k (by omega), ih (k + 1) _ (by omega)]
      rw [e _ _ _ (Nat.lt_succ_self i)]
      exact app_comm ps (i + 1) s fun k p' hk hs => h4 (k + 1) p' (by simpa using hk) (by omega) (by rw [← hs]; congr 1; omega)
    | succ j =>
      simp at h
      rw [h3 i (by omega)]
      exact app_add ps (i + 1) j _ q h (by rw [← h1]; congr 1; omega) (by rw [← h2]; congr 1; omega) (fun k hk => h3 k (by omega))
        fun k p' hk hjk hs => h4 (k + 1) p' (by simpa using hk) (by omega) (by rw [← hs]; congr 1; omega)

theorem app_tm {S S' : Nat → Bool} {t : Nat} : ∀ (ps : List Stp) (i : Nat) (s s' : St), (∀ k p, ps[k]? = some p → p.o.dst = some t → S (i + k) = S' (i + k)) → s.tm[t]? = s'.tm[t]? → (app S i ps s).tm[t]? = (app S' i ps s').tm[t]?
  | [], _, _, _, _, h => h
  | p :: ps, i, s, s', h, hs => by
    simp only [app]
    refine app_tm ps (i + 1) _ _ (fun k p' hk hd => by have := h (k + 1) p' (by simpa using hk) hd; rw [show i + 1 + k = i + (k + 1) by omega]; exact this) ?_
    have one : ∀ (s : St), p.o.dst ≠ some t → (p.act s).tm[t]? = s.tm[t]? := fun s hd => by
      unfold Stp.act
      have e : ∀ v, (s.put p.o.dst v).tm[t]? = s.tm[t]? := fun v => by
        cases hdd : p.o.dst with
        | none => rfl
        | some d => simp only [St.put]; rw [List.getElem?_set_ne]; intro e; rw [hdd, e] at hd; exact hd rfl
      cases p.on <;> exact e _
    by_cases hd : p.o.dst = some t
    · have hS := h 0 p (by simp) hd
      simp only [Nat.add_zero] at hS
      rw [hS]
      cases S' i with
      | false => exact hs
      | true =>
        simp only [if_true]
        have hlt : t < s.tm.length ↔ t < s'.tm.length := by
          constructor
          · intro hl
            rw [List.getElem?_eq_getElem hl] at hs
            exact (List.getElem?_eq_some_iff.1 hs.symm).1
          · intro hl
            rw [List.getElem?_eq_getElem hl] at hs
            exact (List.getElem?_eq_some_iff.1 hs).1
        have e : ∀ v, (s.put p.o.dst v).tm[t]? = (s'.put p.o.dst v).tm[t]? := fun v => by
          simp only [hd, St.put, List.getElem?_set, if_true]
          by_cases hl : t < s.tm.length
          · rw [if_pos hl, if_pos (hlt.1 hl)]
          · rw [if_neg hl, if_neg (fun h => hl (hlt.2 h))]
        unfold Stp.act
        cases p.on <;> exact e _
    · have e1 : (if S i then p.act s else s).tm[t]? = s.tm[t]? := by split; exact one s hd; rfl
      have e2 : (if S' i then p.act s' else s').tm[t]? = s'.tm[t]? := by split; exact one s' hd; rfl
      rw [e1, e2]; exact hs

theorem act_hp (p : Stp) (s : St) : (p.act s).hp = if p.on then asg s.hp p.l else s.hp := by
  unfold Stp.act
  cases p.on
  · cases p.o.dst <;> rfl
  · rfl

theorem app_hp {S S' : Nat → Bool} {id : Nat} : ∀ (ps : List Stp) (i : Nat) (s s' : St), (∀ k p, ps[k]? = some p → id ∈ p.wids → S (i + k) = S' (i + k)) → hget s.hp id = hget s'.hp id → hget (app S i ps s).hp id = hget (app S' i ps s').hp id
  | [], _, _, _, _, h => h
  | p :: ps, i, s, s', h, hs => by
    simp only [app]
    refine app_hp ps (i + 1) _ _ (fun k p' hk hd => by have := h (k + 1) p' (by simpa using hk) hd; rw [show i + 1 + k = i + (k + 1) by omega]; exact this) ?_
    by_cases hd : id ∈ p.wids
    · have hS := h 0 p (by simp) hd
      simp only [Nat.add_zero] at hS
      rw [hS]
      cases S' i with
      | false => exact hs
      | true =>
        simp only [if_true, act_hp]
        cases p.on
        · exact hs
        · exact hget_asg _ _ _ _ hs
    · have one : ∀ (s : St), hget (p.act s).hp id = hget s.hp id := fun s => by
        rw [act_hp]
        cases hon : p.on
        · rfl
        · refine hget_asg_out _ _ _ fun q hq e => hd ?_
          simp only [Stp.wids, hon, if_true, List.mem_map]; exact ⟨q, hq, e⟩
      have e1 : hget (if S i then p.act s else s).hp id = hget s.hp id := by split; exact one s; rfl
      have e2 : hget (if S' i then p.act s' else s').hp id = hget s'.hp id := by split; exact one s'; rfl
      rw [e1, e2]; exact hs

/-- The last that writes a block. -/
theorem app_last {S : Nat → Bool} {id : Nat} {B : Blk} : ∀ (ps : List Stp) (i k : Nat) (s : St) (pk : Stp), ps[k]? = some pk → S (i + k) = true → pk.on = true → (∀ hp, hget (asg hp pk.l) id = B) →
    (∀ k' p', ps[k']? = some p' → k < k' → id ∈ p'.wids → S (i + k') = false) → hget (app S i ps s).hp id = B
  | [], _, _, _, _, h, _, _, _, _ => by simp at h
  | p :: ps, i, 0, s, pk, h, hS, hon, hB, hlast => by
    simp at h; subst h
    simp only [Nat.add_zero] at hS
    simp only [app, hS, if_true]
    have e := app_hp (S := S) (S' := fun _ => false) (id := id) ps (i + 1) (p.act s) (p.act s) (fun k p' hk hid => by
      have := hlast (k + 1) p' (by simpa using hk) (by omega) hid
      rw [show i + 1 + k = i + (k + 1) by omega]; exact this) rfl
    rw [e, app_none _ _ _ _ (fun _ _ => rfl), act_hp, hon]
    exact hB _
  | p :: ps, i, k + 1, s, pk, h, hS, hon, hB, hlast => by
    simp at h
    simp only [app]
    exact app_last ps (i + 1) k _ pk h (by rw [show i + 1 + k = i + (k + 1) by omega]; exact hS) hon hB fun k' p' hk' hlt hid => by
      have := hlast (k' + 1) p' (by simpa using hk') (by omega) hid
      rw [show i + 1 + k' = i + (k' + 1) by omega]; exact this

end Go.Ev
end

section
/-
  REGIONS WHOSE ORDER IS DRAWN, MORE: every order comes to the state of the text's order.
-/
namespace Go.Ev
variable {A : Type}

-- ------------------------------------------------------------ who waits for whom

def waitOne (acc : List (List Nat)) (o : Oper) : List Nat :=
  o.held.foldl (fun l e => if l.contains e.on then l else l ++ e.on :: ((acc.getD e.on []).filter fun x => !l.contains x)) []

theorem waitOne_mem {acc : List (List Nat)} {o : Oper} {i : Nat} (h : i ∈ waitOne acc o) : ∃ e ∈ o.held, i = e.on ∨ i ∈ acc.getD e.on [] := by
  have key : ∀ (es : List Edge) (l : List Nat), i ∈ es.foldl (fun l e => if l.contains e.on then l else l ++ e.on :: ((acc.getD e.on []).filter fun x => !l.contains x)) l → i ∈ l ∨ ∃ e ∈ es, i = e.on ∨ i ∈ acc.getD e.on [] := by
    intro es
    induction es with
    | nil => intro l h; exact .inl h
    | cons e es ih =>
      intro l h
      rcases ih _ h with h | ⟨e', he', h⟩
      · simp only at h
        split at h
        · exact .inl h
        · rcases List.mem_append.1 h with h | h
          · exact .inl h
          · rcases List.mem_cons.1 h with h | h
            · exact .inr ⟨e, by simp, .inl h⟩
            · exact .inr ⟨e, by simp, .inr (List.mem_filter.1 h).1⟩
      · exact .inr ⟨e', by simp [he'], h⟩
  rcases key _ _ h with h | h
  · cases h
  · exact h

theorem waits_get : ∀ (os : List Oper) (acc : List (List Nat)), ∃ tl, os.foldl (fun acc o => acc ++ [waitOne acc o]) acc = acc ++ tl ∧ ∀ j o, os[j]? = some o → (acc ++ tl)[acc.length + j]? = some (waitOne ((acc ++ tl).take (acc.length + j)) o)
  | [], acc => ⟨[], by simp, by simp⟩
  | o :: os, acc => by
    obtain ⟨tl, h1, h2⟩ := waits_get os (acc ++ [waitOne acc o])
    refine ⟨waitOne acc o :: tl, by rw [List.foldl_cons, h1]; simp, fun j o' hj => ?_⟩
    cases j with
    | zero =>
      simp at hj; subst hj
      simp
    | succ j =>
      simp at hj
      have := h2 j o' hj
      simp only [List.append_assoc, List.cons_append, List.nil_append, List.length_append, List.length_cons, List.length_nil, Nat.zero_add] at this
      rw [show acc.length + (j + 1) = acc.length + 1 + j by omega]
      exact this

theorem waitsFor_mem {os : List Oper} {i j : Nat} {o : Oper} (hj : os[j]? = some o) (h : i ∈ (waitsFor os).getD j []) : ∃ e ∈ o.held, i = e.on ∨ i ∈ (waitsFor os).getD e.on [] := by
  obtain ⟨tl, h1, h2⟩ := waits_get os []
  have hW : waitsFor os = tl := by simpa [waitsFor, waitOne] using h1
  have h3 := h2 j o hj
  simp only [List.nil_append, List.length_nil, Nat.zero_add] at h3
  rw [hW] at h ⊢
  rw [List.getD_eq_getElem?_getD, h3] at h
  obtain ⟨e, he, h⟩ := waitOne_mem h
  refine ⟨e, he, h.imp id fun h => ?_⟩
  rw [List.getD_eq_getElem?_getD, List.getElem?_take] at h
  split at h
  · rw [List.getD_eq_getElem?_getD]; exact h
  · simp at h

theorem closed_waits {os : List Oper} {S : Nat → Bool} (hb : ∀ (j : Nat) (o : Oper), os[j]? = some o → ∀ e ∈ o.held, e.on < j) (hc : ∀ (j : Nat) (o : Oper), os[j]? = some o → S j = true → ∀ e ∈ o.held, S e.on = true) :
    ∀ (j : Nat), S j = true → ∀ i ∈ (waitsFor os).getD j [], S i = true := by
  intro j
  induction j using Nat.strongRecOn with
  | _ j ih =>
    intro hj i hi
    cases ho : os[j]? with
    | none =>
      obtain ⟨tl, h1, h2⟩ := waits_get os []
      have hW : waitsFor os = tl := by simpa [waitsFor, waitOne] using h1
      have hlen : tl.length = os.length := by
        have : ∀ (os : List Oper) (acc : List (List Nat)), (os.foldl (fun acc o => acc ++ [waitOne acc o]) acc).length = acc.length + os.length := fun os => by
          induction os with
          | nil => intro acc; rfl
          | cons o os ih => intro acc; rw [List.foldl_cons, ih]; simp; omega
        have := this os []
        rw [h1] at this; simpa using this
      rw [hW, List.getD_eq_getElem?_getD, List.getElem?_eq_none (by rw [hlen]; exact List.getElem?_eq_none_iff.1 ho)] at hi
      simp at hi
    | some o =>
      obtain ⟨e, he, h⟩ := waitsFor_mem ho hi
      have hS := hc j o ho hj e he
      rcases h with rfl | h
      · exact hS
      · exact ih e.on (hb j o ho e he) hS i h

theorem disjointB_spec {a b : List Nat} (h : disjointB a b = true) : ∀ x ∈ a, x ∉ b := fun x hx hb => by
  simp only [disjointB, List.all_eq_true, Bool.not_eq_true'] at h
  have := h x hx
  simp [hb] at this

theorem fp_w (p : Stp) : p.fp.w = p.wids := by unfold Stp.fp Stp.wids; cases p.on <;> rfl

structure Soft (ops : Array Oper) (ps : List Stp) (i j : Nat) (oi oj : Oper) (pi : Stp) : Prop where
  look : oi.op.isLook = true
  entry : oj.op.isEntry = true
  apart : oi.apart ops oj = true
  none : pi.wids = []
  one : ∀ (k : Nat) (o : Oper), ops.toList[k]? = some o → o.op.isEntry = true → k = j
  between : ∀ (k : Nat) (p : Stp), i < k → k < j → ps[k]? = some p → ∀ x ∈ p.wids, x ∉ pi.fp.r

structure Indep (ops : Array Oper) (ps : List Stp) : Prop where
  before : ∀ (j : Nat) (o : Oper), ops.toList[j]? = some o → ∀ e ∈ o.held, e.on < j
  pair : ∀ i j oi oj pi pj, i < j → ops.toList[i]? = some oi → ops.toList[j]? = some oj → ps[i]? = some pi → ps[j]? = some pj → i ∈ (waitsFor ops.toList).getD j [] ∨
    (oi.apart ops oj = true ∧ (∀ x ∈ pi.fp.w, x ∉ pj.fp.r ++ pj.fp.w) ∧ ∀ x ∈ pj.fp.w, x ∉ pi.fp.r) ∨ Soft ops ps i j oi oj pi

theorem indepB_spec {ops : Array Oper} {ps : List Stp} (h : indepB ops (ps.map Stp.fp) = true) (hl : ps.length = ops.size) : Indep ops ps := by
  simp only [indepB, Bool.and_eq_true, List.all_eq_true, List.mem_range] at h
  obtain ⟨_, h⟩ := h
  have base : ∀ j o p, ops.toList[j]? = some o → ps[j]? = some p → (∀ e ∈ o.held, e.on < j) ∧ ∀ i, i < j → (((waitsFor ops.toList).getD j []).contains i || match ops[i]?, (ps.map Stp.fp)[i]? with
        | some oi, some fi => (oi.apart ops o && disjointB fi.w (p.fp.r ++ p.fp.w) && disjointB p.fp.w fi.r) || softB ops (ps.map Stp.fp) i j
        | _, _ => false) = true := fun j o p hj hp => by
    have hlt : j < ops.size := by have := (List.getElem?_eq_some_iff.1 hj).1; simpa using this
    have := h j hlt
    have e1 : ops[j]? = some o := by rw [← Array.getElem?_toList]; exact hj
    have e2 : (ps.map Stp.fp)[j]? = some p.fp := by rw [List.getElem?_map, hp]; rfl
    rw [e1, e2] at this
    simp only [Bool.and_eq_true, List.all_eq_true, List.mem_range, decide_eq_true_eq] at this
    exact this
  refine ⟨fun j o hj e he => ?_, fun i j oi oj pi pj hij hi hj hpi hpj => ?_⟩
  · obtain ⟨p, hp⟩ : ∃ p, ps[j]? = some p := by
      have hlt : j < ps.length := by rw [hl]; have := (List.getElem?_eq_some_iff.1 hj).1; simpa using this
      exact ⟨ps[j], List.getElem?_eq_getElem hlt⟩
    exact (base j o p hj hp).1 e he
  · have := (base j oj pj hj hpj).2 i hij
    have e1 : ops[i]? = some oi := by rw [← Array.getElem?_toList]; exact hi
    have e2 : (ps.map Stp.fp)[i]? = some pi.fp := by rw [List.getElem?_map, hpi]; rfl
    rw [e1, e2] at this
    simp only [Bool.or_eq_true, Bool.and_eq_true] at this
    rcases this with h1 | h1 | h1
    · exact .inl (by simpa using h1)
    · exact .inr (.inl ⟨h1.1.1, disjointB_spec h1.1.2, disjointB_spec h1.2⟩)
    · refine .inr (.inr ?_)
      have e3 : ops[j]? = some oj := by rw [← Array.getElem?_toList]; exact hj
      unfold softB at h1
      rw [e1, e2, e3] at h1
      simp only [Bool.and_eq_true, List.all_eq_true, List.mem_range, List.isEmpty_iff] at h1
      obtain ⟨⟨⟨⟨⟨g1, g2⟩, g3⟩, g4⟩, g5⟩, g6⟩ := h1
      refine ⟨g1, g2, g3, by rw [← fp_w]; exact g4, fun k o hk he => ?_, fun k p hik hkj hp x hx => ?_⟩
      · have hk' : ops[k]? = some o := by rw [← Array.getElem?_toList]; exact hk
        have hlt : k < ops.size := (Array.getElem?_eq_some_iff.1 hk').1
        have := g5 k hlt
        rw [hk'] at this
        simpa [he] using this
      · have hlt : k < ops.size := by rw [← hl]; exact (List.getElem?_eq_some_iff.1 hp).1
        have := g6 k hlt
        have e4 : (ps.map Stp.fp)[k]? = some p.fp := by rw [List.getElem?_map, hp]; rfl
        rw [e4] at this
        simp only [hik, hkj, decide_true, Bool.and_true, Bool.not_true, Bool.false_or] at this
        rw [← fp_w] at hx
        exact disjointB_spec this x hx


/-- The operations behind 'S', and one that is ready: who writes what it looks at. -/
structure Fresh (ops : Array Oper) (ps : List Stp) (S : Nat → Bool) (j : Nat) (pj : Stp) : Prop where
  looks : ∀ k pk t, ps[k]? = some pk → pk.o.dst = some t → t ∈ pj.o.looksAt ops → S k = decide (k < j)
  blocks : ∀ k pk x, ps[k]? = some pk → x ∈ pk.wids → x ∈ pj.fp.r ++ pj.fp.w → S k = decide (k < j) ∨ (j < k ∧ S k = true ∧ Soft ops ps j k pj.o pk.o pj)
  later : ∀ k pk, ps[k]? = some pk → j < k → S k = true → (∀ d, pk.o.dst = some d → pj.o.dst ≠ some d) ∧ ∀ x ∈ pk.wids, x ∉ pj.wids

theorem fresh_of {ops : Array Oper} {ps : List Stp} (I : Indep ops ps) (hops : ∀ (k : Nat) (p : Stp), ps[k]? = some p → ops.toList[k]? = some p.o) {S : Nat → Bool}
    (hc : ∀ (j : Nat) (o : Oper), ops.toList[j]? = some o → S j = true → ∀ e ∈ o.held, S e.on = true) {j : Nat} {pj : Stp} (hj : ps[j]? = some pj) (hS : S j = false) (hr : ∀ e ∈ pj.o.held, S e.on = true) : Fresh ops ps S j pj := by
  have hcl := closed_waits (fun j o hj e he => I.before j o hj e he) hc
  have waitsIn : ∀ k, k ∈ (waitsFor ops.toList).getD j [] → S k = true := fun k hk => by
    obtain ⟨e, he, h⟩ := waitsFor_mem (hops j pj hj) hk
    rcases h with rfl | h
    · exact hr e he
    · exact hcl e.on (hr e he) k h
  have notIn : ∀ k, S k = true → j ∉ (waitsFor ops.toList).getD k [] := fun k hk hjk => by
    have := hcl k hk j hjk; rw [hS] at this; cases this
  have before : ∀ k pk, ps[k]? = some pk → k < j → S k = true ∨ (pk.o.apart ops pj.o = true ∧ (∀ x ∈ pk.wids, x ∉ pj.fp.r ++ pj.fp.w)) := fun k pk hk hkj => by
    rcases I.pair k j _ _ pk pj hkj (hops k pk hk) (hops j pj hj) hk hj with h | ⟨h1, h2, _⟩ | h
    · exact .inl (waitsIn k h)
    · exact .inr ⟨h1, by rw [← fp_w]; exact h2⟩
    · exact .inr ⟨h.apart, fun x hx => by rw [h.none] at hx; cases hx⟩
  have behind : ∀ k pk, ps[k]? = some pk → j < k → S k = false ∨ (pj.o.apart ops pk.o = true ∧ (∀ x ∈ pj.wids, x ∉ pk.fp.r ++ pk.wids) ∧ ((∀ x ∈ pk.wids, x ∉ pj.fp.r) ∨ Soft ops ps j k pj.o pk.o pj)) := fun k pk hk hjk => by
    rcases I.pair j k _ _ pj pk hjk (hops j pj hj) (hops k pk hk) hj hk with h | ⟨h1, h2, h3⟩ | h
    · left
      cases hSk : S k with
      | false => rfl
      | true => exact absurd h (notIn k hSk)
    · refine .inr ⟨h1, ?_, ?_⟩
      · rw [← fp_w, ← fp_w pk]; exact h2
      · left; rw [← fp_w]; exact h3
    · exact .inr ⟨h.apart, (fun x hx => by rw [h.none] at hx; cases hx), .inr h⟩
  refine ⟨fun k pk t hk ht hl => ?_, fun k pk x hk hx hl => ?_, fun k pk hk hjk hSk => ?_⟩
  · rcases Nat.lt_trichotomy k j with h | h | h
    · rcases before k pk hk h with h1 | ⟨h1, _⟩
      · simp [h1, h]
      · exact absurd hl ((Oper.apart_spec h1).1 t ht)
    · subst h; simp [hS]
    · rcases behind k pk hk h with h1 | ⟨h1, _⟩
      · simp [h1]; omega
      · exact absurd hl ((Oper.apart_spec h1).2.2 t ht)
  · rcases Nat.lt_trichotomy k j with h | h | h
    · left
      rcases before k pk hk h with h1 | ⟨_, h1⟩
      · simp [h1, h]
      · exact absurd hl (h1 x hx)
    · subst h; left; simp [hS]
    · rcases behind k pk hk h with h1 | ⟨_, h1, h2⟩
      · left; simp [h1]; omega
      · rcases List.mem_append.1 hl with hl | hl
        · rcases h2 with h2 | h2
          · exact absurd hl (h2 x hx)
          · cases hSk : S k with
            | false => left; simp; omega
            | true => exact .inr ⟨h, rfl, h2⟩
        · rw [fp_w] at hl
          exact absurd (List.mem_append.2 (.inr hx)) (h1 x hl)
  · rcases behind k pk hk hjk with h1 | ⟨h1, h2, _⟩
    · rw [h1] at hSk; cases hSk
    · exact ⟨fun d hd hd' => (Oper.apart_spec h1).2.1 d hd' hd, fun x hx hx' => h2 x hx' (List.mem_append.2 (.inr hx))⟩

end Go.Ev
end

section
/-
  REGIONS: both kinds.
-/
namespace Go.Ev
variable {A : Type}

theorem filter_lt {α : Type} {p q : α → Bool} : ∀ {l : List α}, (∀ x ∈ l, q x = true → p x = true) → ∀ x0 ∈ l, p x0 = true → q x0 = false → (l.filter q).length < (l.filter p).length
  | [], _, _, h, _, _ => by cases h
  | x :: l, h, x0, h0, hp, hq => by
    have le : (l.filter q).length ≤ (l.filter p).length := by
      have : ∀ l : List α, (∀ x ∈ l, q x = true → p x = true) → (l.filter q).length ≤ (l.filter p).length := fun l => by
        induction l with
        | nil => intro _; simp
        | cons y l ih =>
          intro h
          have ih := ih fun x hx => h x (by simp [hx])
          rw [List.filter_cons, List.filter_cons]
          cases hq : q y with
          | true => rw [h y (by simp) hq]; simpa using ih
          | false => cases p y <;> simp <;> omega
      exact this l fun x hx => h x (by simp [hx])
    rw [List.filter_cons, List.filter_cons]
    rcases List.mem_cons.1 h0 with rfl | h0
    · rw [hp, hq]; simp; omega
    · have ih := filter_lt (fun x hx => h x (by simp [hx])) x0 h0 hp hq
      cases hqx : q x with
      | true => rw [h x (by simp) hqx]; simpa using ih
      | false => cases p x <;> simp <;> omega

theorem app_same {S S' : Nat → Bool} : ∀ (ps : List Stp) (i : Nat) (s : St), (∀ k, k < ps.length → S (i + k) = S' (i + k)) → app S i ps s = app S' i ps s
  | [], _, _, _ => rfl
  | p :: ps, i, s, h => by
    simp only [app]
    have h0 := h 0 (by simp)
    simp only [Nat.add_zero] at h0
    rw [h0]
    exact app_same ps (i + 1) _ fun k hk => by have := h (k + 1) (by simpa using hk); rw [show i + 1 + k = i + (k + 1) by omega]; exact this

theorem ready_mem {ops : Array Oper} {listed : Array Bool} {i : Nat} : i ∈ Region.ready .any ops listed ↔ i < ops.size ∧ listed.getD i true = false ∧ ∃ o, ops[i]? = some o ∧ ∀ e ∈ o.after.toList, Region.binds .any e = true → listed.getD e.on false = true := by
  unfold Region.ready
  simp only [List.mem_filter, List.mem_range, Bool.and_eq_true, Bool.not_eq_true']
  constructor
  · rintro ⟨h1, h2, h3⟩
    refine ⟨h1, h2, ?_⟩
    obtain ⟨o, ho⟩ : ∃ o, ops[i]? = some o := ⟨ops[i], Array.getElem?_eq_getElem h1⟩
    refine ⟨o, ho, fun e he hb => ?_⟩
    rw [ho] at h3
    simp only [Option.map_some, Option.getD_some, Array.all_eq_true_iff_forall_mem, Bool.or_eq_true, Bool.not_eq_true'] at h3
    rcases h3 e (Array.mem_toList_iff.1 he) with h | h
    · rw [hb] at h; cases h
    · exact h
  · rintro ⟨h1, h2, o, ho, h3⟩
    refine ⟨h1, h2, ?_⟩
    rw [ho]
    simp only [Option.map_some, Option.getD_some, Array.all_eq_true_iff_forall_mem, Bool.or_eq_true, Bool.not_eq_true']
    intro e he
    cases hb : Region.binds .any e with
    | false => exact .inl rfl
    | true => exact .inr (h3 e (Array.mem_toList_iff.2 he) hb)

theorem hget_of {hp : List Blk} {id : Nat} {b : Blk} (h : hp[id]? = some b) : hget hp id = b := by simp [hget, h]
theorem hget_some {hp : List Blk} {id : Nat} {b : Blk} (h : hget hp id = b) (hn : b ≠ .free) : hp[id]? = some b := by
  unfold hget at h
  cases hh : hp[id]? with
  | none => rw [hh] at h; simp at h; exact absurd h.symm hn
  | some c => rw [hh] at h; simp at h; rw [h]

theorem chain_any {P : Program} {gl : GL} {ops : Array Oper} {Q : Exit → Act → World → Prop} {s s' : St} {ps : List Stp} (hc : Chain P gl ops ops.toList s ps s') (I : Indep ops ps) :
    ∀ (fuel : Nat) (listed : Array Bool) (X : Cx) (a : Act), listed.size = ops.size →
    (∀ (j : Nat) (o : Oper), ops.toList[j]? = some o → listed.getD j true = true → ∀ e ∈ o.held, listed.getD e.on true = true) →
    ((List.range ops.size).filter fun i => !listed.getD i true).length ≤ fuel → Rel gl X (app (fun i => listed.getD i true) 0 ps s) a →
    (∀ (Y : Cx) (a' : Act), Rel gl Y s' a' → WEvo X Y → HEvo X Y → Q .normal a' Y.w) → wpAny P .any ops Q fuel listed a X.w := by
  have hlen : ps.length = ops.size := by rw [chain_len hc]; simp
  have done : ∀ (listed : Array Bool), ((List.range ops.size).filter fun i => !listed.getD i true) = [] → app (fun i => listed.getD i true) 0 ps s = s' := fun listed h => by
    rw [← app_all hc 0]
    refine app_same ps 0 s fun k hk => ?_
    rw [Nat.zero_add]
    by_cases hlt : k < ops.size
    · have : k ∉ (List.range ops.size).filter fun i => !listed.getD i true := by rw [h]; simp
      simp only [List.mem_filter, List.mem_range, hlt, true_and, Bool.not_eq_true', Bool.not_eq_false] at this
      exact this
    · omega
  have noReady : ∀ (listed : Array Bool), listed.size = ops.size → Region.ready .any ops listed = [] → ((List.range ops.size).filter fun i => !listed.getD i true) = [] := fun listed hsz hr => by
    have all : ∀ j, j < ops.size → listed.getD j true = true := by
      intro j
      induction j using Nat.strongRecOn with
      | _ j ih =>
        intro hj
        cases hl : listed.getD j true with
        | true => rfl
        | false =>
          obtain ⟨o, ho⟩ : ∃ o, ops[j]? = some o := ⟨ops[j], Array.getElem?_eq_getElem hj⟩
          have : j ∈ Region.ready .any ops listed := ready_mem.2 ⟨hj, hl, o, ho, fun e he hb => by
            have hlt := I.before j o (by rw [Array.getElem?_toList]; exact ho) e (List.mem_filter.2 ⟨he, hb⟩)
            have := ih e.on hlt (by omega)
            have he' : e.on < listed.size := by omega
            simp only [Array.getD, he', dif_pos] at this ⊢
            exact this⟩
          rw [hr] at this; cases this
    rw [List.filter_eq_nil_iff]
    intro j hj
    simp [all j (by simpa using hj)]
  intro fuel
  induction fuel with
  | zero =>
    intro listed X a hsz hcl hf hr hq
    have h0 := List.eq_nil_of_length_eq_zero (Nat.le_zero.1 hf)
    refine ⟨?_, ?_⟩
    · cases hrd : Region.ready .any ops listed with
      | nil => rfl
      | cons i is =>
        have hi : i ∈ Region.ready .any ops listed := by rw [hrd]; simp
        obtain ⟨h1, h2, _⟩ := ready_mem.1 hi
        have : i ∈ (List.range ops.size).filter fun i => !listed.getD i true := by
          rw [List.mem_filter]; exact ⟨by simpa using h1, by rw [h2]; rfl⟩
        rw [h0] at this; cases this
    · rw [done listed h0] at hr
      exact hq X a hr (.refl X) (.refl X)
  | succ fuel ih =>
    intro listed X a hsz hcl hf hr hq
    refine ⟨fun hrd => ?_, fun j hj => ?_⟩
    · rw [done listed (noReady listed hsz hrd)] at hr
      exact hq X a hr (.refl X) (.refl X)
    · obtain ⟨hlt, hSj, o, ho, haft⟩ := ready_mem.1 hj
      have hot : ops.toList[j]? = some o := by rw [Array.getElem?_toList]; exact ho
      obtain ⟨p, hp⟩ : ∃ p, ps[j]? = some p := ⟨ps[j]'(by omega), List.getElem?_eq_getElem _⟩
      obtain ⟨g1, g2, g3, g4⟩ := chain_at hc 0 j p hp
      rw [hot] at g1
      simp only [Option.some.injEq] at g1
      subst g1
      rw [Nat.zero_add] at g2
      have haft' : ∀ e ∈ p.o.held, listed.getD e.on true = true := fun e he => by
        have h1 := I.before j p.o hot e he
        have h2 := haft e (List.mem_filter.1 he).1 (List.mem_filter.1 he).2
        have he' : e.on < listed.size := by omega
        simp only [Array.getD, he', dif_pos] at h2 ⊢
        exact h2
      have hops : ∀ (k : Nat) (p : Stp), ps[k]? = some p → ops.toList[k]? = some p.o := fun k p hk => (chain_at hc 0 k p hk).1
      have FR := fresh_of I hops (S := fun i => listed.getD i true) hcl hp hSj haft'
      generalize hcur : app (fun i => listed.getD i true) 0 ps s = cur at hr
      -- the slots that it looks at
      have tmEq : ∀ t, t ∈ p.o.looksAt ops → cur.tm[t]? = p.s.tm[t]? := fun t ht => by
        rw [← hcur, g2]
        exact app_tm ps 0 s s (fun k pk hk hd => by rw [Nat.zero_add]; exact FR.looks k pk t hk hd ht) rfl
      have evEq : ∀ x ∈ p.o.op.operands, St.ev gl cur x = St.ev gl p.s x := fun x hx => by
        cases x with
        | tmp t =>
          have : t ∈ p.o.looksAt ops := by
            simp only [Oper.looksAt, List.mem_append, List.mem_filterMap]
            exact .inl ⟨.tmp t, Array.mem_toList_iff.2 hx, rfl⟩
          simp only [St.ev, List.getD_eq_getElem?_getD, tmEq t this]
        | _ => rfl
      have guard : GuardOK ops p.o cur p.on := by
        unfold GuardOK at g3 ⊢
        cases hg : p.o.guard with
        | none => rw [hg] at g3; exact g3
        | some q =>
          obtain ⟨gj, want⟩ := q
          rw [hg] at g3
          obtain ⟨g, h1, h2⟩ := g3
          refine ⟨g, h1, ?_⟩
          rw [tmEq g]
          · exact h2
          · simp only [Oper.looksAt, hg, h1, List.mem_append]
            exact .inr (by simp)
      -- behind it
      have next : app (fun i => (listed.setIfInBounds j true).getD i true) 0 ps s = p.act cur := by
        rw [← hcur]
        refine app_add ps 0 j s p hp (by rw [Nat.zero_add]; exact hSj) ?_ (fun k hk => ?_) fun k pk hk hjk hS => ?_
        · rw [Nat.zero_add]
          simp [Array.getD, hsz, hlt]
        · rw [Nat.zero_add] at hk
          by_cases hkl : k < listed.size
          · simp [Array.getD, hkl, Ne.symm hk]
          · simp [Array.getD, hkl]
        · rw [Nat.zero_add] at hS
          exact FR.later k pk hk hjk hS
      have count : ((List.range ops.size).filter fun i => !(listed.setIfInBounds j true).getD i true).length ≤ fuel := by
        have := filter_lt (l := List.range ops.size) (p := fun i => !listed.getD i true) (q := fun i => !(listed.setIfInBounds j true).getD i true) (fun x hx hq => by
          have hx : x < listed.size := by rw [hsz]; simpa using hx
          by_cases hxj : j = x
          · subst hxj; simp only [hSj]; rfl
          · simpa [Array.getD, hx, hxj] using hq) j (by simpa using hlt) (by rw [hSj]; rfl) (by simp [Array.getD, hsz, hlt])
        omega
      have closed : ∀ (k : Nat) (o : Oper), ops.toList[k]? = some o → (listed.setIfInBounds j true).getD k true = true → ∀ e ∈ o.held, (listed.setIfInBounds j true).getD e.on true = true := fun k o' hk hl e he => by
        have mono : ∀ i, listed.getD i true = true → (listed.setIfInBounds j true).getD i true = true := fun i hi => by
          by_cases hil : i < listed.size
          · by_cases hij : j = i
            · subst hij; simp [Array.getD, hil]
            · simpa [Array.getD, hil, hij] using hi
          · simp [Array.getD, hil]
        refine mono _ ?_
        by_cases hkj : k = j
        · subst hkj; rw [hot] at hk; cases hk; exact haft' e he
        · refine hcl k o' hk ?_ e he
          by_cases hkl : k < listed.size
          · simpa [Array.getD, hkl, Ne.symm hkj] using hl
          · simp [Array.getD, hkl]
      unfold wpOp
      rw [ho]
      simp only
      rw [guard.wanted hr]
      cases hon : p.on with
      | false =>
        simp only [Bool.false_eq_true, if_false]
        refine ih _ X _ (by simpa using hsz) closed count ?_ hq
        rw [next, act_eq, hon]
        have := hr.put (d := p.o.dst) RS.undef
        cases hd : p.o.dst <;> rw [hd] at this <;> exact this
      | true =>
        simp only [if_true]
        left
        have fpr : p.fp.r = (p.s.sub p.o).map (·.1) := by simp [Stp.fp, hon]
        have fpw : p.fp.w = p.l.map (·.1) := by simp [Stp.fp, hon]
        have cont : ∀ (Y : Cx) (u : Value), Y.hp = asg X.hp p.l → RS Y p.v u → Ok Y → WEvo X Y → HEvo X Y → wpAny P .any ops Q fuel (listed.setIfInBounds j true) (a.put p.o.dst u) Y.w := fun Y u hpY hu ok W H => by
          have h6 := (hr.step hpY ok W H).put (d := p.o.dst) hu
          refine ih _ Y _ (by simpa using hsz) closed count ?_ fun Z a' hz WZ HZ => hq Z a' hz (W.trans WZ) (H.trans HZ)
          rw [next, act_eq, hon]
          cases hd : p.o.dst <;> rw [hd] at h6 <;> exact h6
        by_cases good : ∀ k pk x, ps[k]? = some pk → x ∈ pk.wids → x ∈ p.fp.r ++ p.fp.w → listed.getD k true = decide (k < j)
        · have hpEq : ∀ id, id ∈ p.fp.r ++ p.fp.w → hget cur.hp id = hget p.s.hp id := fun id hid => by
            rw [← hcur]
            conv => rhs; rw [g2]
            exact app_hp ps 0 s s (fun k pk hk hd => by rw [Nat.zero_add]; exact good k pk id hk hd hid) rfl
          refine (g4 hon).1.2 X a _ Q ⟨fun x hx => by rw [← evEq x hx]; exact hr.ev x, hr.ok, hr.glo, fun id b hb => ?_⟩ (fun q hq hge => ?_) cont
          · have hmem : id ∈ p.fp.r := by
              rw [fpr, List.mem_map]
              obtain ⟨l1, l2, h1, _⟩ := List.lookup_eq_some_iff.1 hb
              exact ⟨(id, b), by rw [h1]; simp, rfl⟩
            have := hpEq id (List.mem_append.2 (.inl hmem))
            rw [hget_of (St.sub_get hb)] at this
            rw [hr.hp]
            exact hget_some this (St.sub_free hb)
          · have hmem : q.1 ∈ p.fp.w := by rw [fpw, List.mem_map]; exact ⟨q, hq, rfl⟩
            have := hpEq q.1 (List.mem_append.2 (.inr hmem))
            have hn : hget p.s.hp q.1 = .free := by simp [hget, List.getElem?_eq_none hge]
            rw [hn] at this
            unfold Cx.unused
            rw [hr.hp]
            unfold hget at this
            cases hh : cur.hp[q.1]? with
            | none => exact .inl rfl
            | some c => rw [hh] at this; simp at this; rw [this]; exact .inr rfl
        · -- an entry has been taken ahead of what is looked up
          obtain ⟨k0, soft⟩ : ∃ k0, ∃ pk : Stp, Soft ops ps j k0 p.o pk.o p := Classical.byContradiction fun hno => good fun k pk x hk hx hxr => by
            rcases FR.blocks k pk x hk hx hxr with h | ⟨_, _, h⟩
            · exact h
            · exact absurd ⟨k, pk, h⟩ hno
          obtain ⟨_, soft⟩ := soft
          obtain ⟨t, m, x, hop⟩ : ∃ t m x, p.o.op = .lookup t m x false := by
            have := soft.look
            cases hpo : p.o.op with
            | lookup t m x ok =>
              cases ok with
              | false => exact ⟨t, m, x, rfl⟩
              | true => rw [hpo] at this; cases this
            | _ => rw [hpo] at this; cases this
          obtain ⟨hl0, id, KK, KV, es, y, hsub, halt⟩ := (g4 hon).2.1 t m x hop
          have hidr : id ∈ p.fp.r := by
            rw [fpr, List.mem_map]
            obtain ⟨l1, l2, h1, _⟩ := List.lookup_eq_some_iff.1 hsub
            exact ⟨(id, .map KK KV es), by rw [h1]; simp, rfl⟩
          have hps := hget_of (St.sub_get hsub)
          -- what the block holds now
          have now : ∃ B, (B = .map KK KV es ∨ ∃ es' x' g, B = .ment KK KV es' x' g ∧ (mget KK es' y).getD KV.zero = (mget KK es y).getD KV.zero) ∧ hget cur.hp id = B := by
            by_cases good2 : ∀ k pk, ps[k]? = some pk → id ∈ pk.wids → listed.getD k true = decide (k < j)
            · refine ⟨_, .inl rfl, ?_⟩
              rw [← hps, ← hcur]
              conv => rhs; rw [g2]
              exact app_hp ps 0 s s (fun k pk hk hd => by rw [Nat.zero_add]; exact good2 k pk hk hd) rfl
            · obtain ⟨k, hk0⟩ := Classical.not_forall.1 good2
              obtain ⟨pk, hk1⟩ := Classical.not_forall.1 hk0
              obtain ⟨hk, hk2⟩ := Classical.not_imp.1 hk1
              obtain ⟨hidw, hk3⟩ := Classical.not_imp.1 hk2
              rcases FR.blocks k pk id hk hidw (List.mem_append.2 (.inl hidr)) with h | ⟨hjk, hSk, sk⟩
              · exact absurd h hk3
              have kon : pk.on = true := by
                cases h : pk.on with
                | true => rfl
                | false => unfold Stp.wids at hidw; rw [h] at hidw; simp at hidw
              obtain ⟨kg1, kg2, kg3, kg4⟩ := chain_at hc 0 k pk hk
              rw [Nat.zero_add] at kg2
              obtain ⟨t', m', x'', hop'⟩ : ∃ t m x, pk.o.op = .mapEntry t m x := by
                have := sk.entry
                cases hpo : pk.o.op with
                | mapEntry t m x => exact ⟨t, m, x, rfl⟩
                | _ => rw [hpo] at this; cases this
              obtain ⟨id', KK', KV', es', x0, hsub', hl'⟩ := (kg4 kon).2.2 t' m' x'' hop'
              have same : hget pk.s.hp id = hget p.s.hp id := by
                rw [kg2, g2]
                refine app_hp ps 0 s s (fun k' pk' hk' hd => ?_) rfl
                rw [Nat.zero_add]
                by_cases h1 : k' < j
                · simp [h1]; omega
                · by_cases h2 : k' < k
                  · by_cases h3 : k' = j
                    · subst h3; rw [hp] at hk'; cases hk'; rw [sk.none] at hd; cases hd
                    · exact absurd hidr (sk.between k' pk' (by omega) h2 hk' id hd)
                  · simp [h1, h2]
              have hid : id = id' := by
                unfold Stp.wids at hidw
                rw [kon, hl'] at hidw
                simp at hidw
                rcases hidw with h | h
                · rw [h] at same
                  rw [show hget pk.s.hp pk.s.hp.length = .free by simp [hget]] at same
                  rw [h] at hps
                  rw [hps] at same; cases same
                · exact h
              subst hid
              rw [hget_of (St.sub_get hsub'), hps] at same
              cases same
              refine ⟨.ment KK KV (mset KK es x0 ((mget KK es x0).getD KV.zero)) x0 pk.s.hp.length, .inr ⟨_, _, _, rfl, look_ment es x0 y KV.zero⟩, ?_⟩
              rw [← hcur]
              refine app_last ps 0 k s pk hk (by rw [Nat.zero_add]; exact hSk) kon (fun hp => ?_) fun k' p' hk' hlt hidw' => ?_
              · rw [hl']
                show hget (hpSet (hpSet hp _ _) id _) id = _
                rw [hget_set, if_pos rfl]
              · rw [Nat.zero_add]
                rcases FR.blocks k' p' id hk' hidw' (List.mem_append.2 (.inl hidr)) with h | ⟨_, _, sk'⟩
                · simp [h]; omega
                · have := sk'.one k pk.o (chain_at hc 0 k pk hk).1 sk.entry
                  omega
          obtain ⟨B, hB, hcurB⟩ := now
          have hBf : B ≠ .free := by rcases hB with rfl | ⟨_, _, _, rfl, _⟩ <;> simp
          refine (halt B hB).2 X a _ Q ⟨fun x hx => by rw [← evEq x hx]; exact hr.ev x, hr.ok, hr.glo, fun id'' b hb => ?_⟩ (fun q hq _ => by cases hq) (by rw [hl0] at cont; exact cont)
          simp only [List.lookup_cons] at hb
          by_cases he : id'' = id
          · subst he
            simp at hb
            rw [hr.hp, ← hb]
            exact hget_some hcurB hBf
          · rw [show (id'' == id) = false by simpa using he] at hb; simp at hb

end Go.Ev
end

section
/-
  CODE: states numbered anew, loops, results.
-/
namespace Go.Ev
variable {A : Type}

theorem take_range {l : List Nat} {m : Nat} (h : (l.take m == List.range m) = true) {i : Nat} (hi : i < m) : l[i]? = some i := by
  have h := eq_of_beq h
  have := congrArg (fun l : List Nat => l[i]?) h
  simpa [List.getElem?_take, hi] using this

theorem Emb.pevo {X Z : Cx} {l : List Nat} {sl : Bool} {m : Nat} (E : Emb X Z (pos l) sl) (hl : l.Nodup) (h : (l.take m == List.range m) = true) : PEvo m X Z := by
  have key : ∀ i, i < m → pos l i = some i := fun i hi => pos_of hl (take_range h hi)
  refine ⟨fun id b hm hb hn => ⟨_, E.hp id id b (key id hm) hb, ?_⟩, fun id b hm hb _ => E.ρ id id b (key id hm) hb⟩
  cases b with
  | var t K v => exact .var ..
  | row e K xs => exact .row _ _ _ _ rfl
  | map KK KV es => exact .map ..
  | ment KK KV es x g => exact .me ..
  | stp => exact .gone _
  | gone => exact .gone _
  | free => exact absurd rfl hn

theorem canon_sound {gl : GL} {X : Cx} {s : St} {a : Act} (h : Rel gl X s a) (dead : List Nat) (hk : ((canonL dead s).take s.m == List.range s.m) = true) : ∃ Z : Cx, Z.w = X.w ∧ WEvo X Z ∧ PEvo s.m X Z ∧ Rel gl Z (canon dead s) a := by
  have hnd : (canonL dead s).Nodup := closure_nodup _ _ _ _ (by simp)
  obtain ⟨Z, h1, h2, h3, h4, h5, h6⟩ := renumber h.hp h.ok (l := canonL dead s) hnd (G := []) (by simp)
  refine ⟨Z, h1, h5, h6.pevo hnd hk, h.glo.evo h5 h.ok.fo, h.defers, by simp [canon, canonTm, h.size], fun i av hi => ?_, h2, h4⟩
  simp only [canon, canonTm, List.getElem?_map, Option.map_eq_some_iff] at hi
  obtain ⟨v, ⟨q, hq, rfl⟩, rfl⟩ := hi
  rw [List.getElem?_zipIdx, Option.map_eq_some_iff] at hq
  obtain ⟨v0, hv0, rfl⟩ := hq
  obtain ⟨u, g1, g2⟩ := h.tm i v0 hv0
  refine ⟨u, g1, ?_⟩
  simp only
  split
  · exact RS.any _
  · exact RS.emb h6 (fun _ => rfl) g2

theorem canonK_sound {A : Type} {dead : List Nat} {s : St} {k : St → Option A} {out : A} (h : canonK dead s k = some out) : k (canon dead s) = some out ∧ ((canonL dead s).take s.m == List.range s.m) = true := by
  unfold canonK at h
  cases hb : (canonL dead s).take s.m == List.range s.m with
  | true => rw [hb] at h; exact ⟨h, rfl⟩
  | false => rw [hb] at h; cases h

-- ------------------------------------------------------------ code

def Ex.out : Ex → Exit
  | .normal => .normal
  | .exit id => .exit id
  | .ret => .ret

def CSem (P : Program) (gl : GL) (c : Code) (s : St) (x : Ex) (s' : St) : Prop :=
  s'.m = s.m ∧ ∀ (X : Cx) (a : Act) (Q : Exit → Act → World → Prop), Rel gl X s a → (∀ (Y : Cx) (a' : Act), WEvo X Y → PEvo s.m X Y → Rel gl Y s' a' → Q x.out a' Y.w) → c.wp P Q a X.w

def RSem (P : Program) (gl : GL) (c : Code) (n : Nat) (s : St) (x : Ex) (s' : St) : Prop :=
  s'.m = s.m ∧ ∀ (X : Cx) (a : Act) (Q : Exit → Act → World → Prop), Rel gl X s a → (∀ (Y : Cx) (a' : Act), WEvo X Y → PEvo s.m X Y → Rel gl Y s' a' → Q x.out a' Y.w) → Code.rounds P c Q n a X.w

theorem drew_sound {gl : GL} {X : Cx} {s : St} {a : Act} (h : Rel gl X s a) : ∃ Z : Cx, Z.w = { X.w with drawn := X.w.drawn + 1 } ∧ WEvo X Z ∧ HEvo X Z ∧ Rel gl Z s a := by
  have W : WEvo X ⟨X.ρ, X.hp, X.F, { X.w with drawn := X.w.drawn + 1 }⟩ := ⟨rfl, rfl, rfl, Nat.le_refl _, fun _ c _ _ h => ⟨c, h, rfl⟩, fun _ _ _ => rfl, fun _ _ h => h, fun _ h => h, fun _ h => .inl h⟩
  have H : HEvo X ⟨X.ρ, X.hp, X.F, { X.w with drawn := X.w.drawn + 1 }⟩ := ⟨fun _ b hb hn => ⟨b, hb, .refl hn⟩, fun _ _ _ _ => rfl⟩
  exact ⟨⟨X.ρ, X.hp, X.F, { X.w with drawn := X.w.drawn + 1 }⟩, rfl, W, H, h.glo.evo W h.ok.fo, h.defers, h.size, fun i av hi => by obtain ⟨v, h1, h2⟩ := h.tm i av hi; exact ⟨v, h1, h2.evo W H h.ok.fo⟩, h.hp,
    ⟨fun id b hb => (h.ok.blk id b hb).evo W H h.ok.fo rfl fun _ _ _ => rfl, h.ok.inj, h.ok.fo⟩⟩

def loopsOf : Nat → Code → List (Nat × Code)
  | j, .seq a b => loopsOf j a ++ loopsOf (j + loops a) b
  | j, .cond _ a b => loopsOf j a ++ loopsOf (j + loops a) b
  | j, .block _ c => loopsOf j c
  | j, .loop c => (j, c) :: loopsOf (j + 1) c
  | _, _ => []

def LoopOK (P : Program) (gl : GL) (c : Code) (L : Loop A) : Prop :=
  ∀ (s : St) (k : Ex → St → Option A) (out : A), L.run s k = some out → ∃ x s', k x s' = some out ∧ CSem P gl (.loop c) s x s'

theorem Sh.read_fill : ∀ {h : Sh} {v : AV} {x : h.den}, h.read v = some x → v = h.fill x
  | .any, v, x, hr => by cases v <;> first | rfl | (simp [Sh.read] at hr)
  | .p K, v, x, hr => by
    cases v <;> simp only [Sh.read] at hr <;> first | (cases hr; done) | skip
    split at hr
    · rename_i h; subst h; cases hr; rfl
    · cases hr
  | .pr a b, v, x, hr => by
    cases v <;> simp only [Sh.read] at hr <;> first | (cases hr; done) | skip
    split at hr
    · rename_i h1 h2
      cases hr
      simp only [Sh.fill]
      rw [← Sh.read_fill h1, ← Sh.read_fill h2]
    · cases hr
  | .row id, v, x, hr => by
    cases v <;> simp only [Sh.read] at hr <;> first | (cases hr; done) | skip
    split at hr
    · rename_i h; subst h; rfl
    · cases hr
  | .ptr id, v, x, hr => by
    cases v with
    | ptr id' q =>
      cases q with
      | nil =>
        simp only [Sh.read] at hr
        split at hr
        · rename_i h; subst h; rfl
        · cases hr
      | cons => simp [Sh.read] at hr
    | _ => simp [Sh.read] at hr
  | .mp id, v, x, hr => by
    cases v <;> simp only [Sh.read] at hr <;> first | (cases hr; done) | skip
    split at hr
    · rename_i h; subst h; rfl
    · cases hr
  | .nilp, v, x, hr => by cases v <;> first | rfl | (simp [Sh.read] at hr)
  | .slc id, v, x, hr => by
    cases v with
    | slc id' q lo len =>
      cases q with
      | nil =>
        simp only [Sh.read] at hr
        split at hr
        · rename_i h; subst h; cases hr; rfl
        · cases hr
      | cons => simp [Sh.read] at hr
    | _ => simp [Sh.read] at hr

theorem BSh.read_fill : ∀ {h : BSh} {v : Blk} {x : h.den}, h.read v = some x → v = h.fill x
  | .var t K h, v, x, hr => by
    cases v <;> simp only [BSh.read] at hr <;> first | (cases hr; done) | skip
    split at hr
    · rename_i he; obtain ⟨rfl, rfl⟩ := he; simp only [BSh.fill]; rw [← Sh.read_fill hr]
    · cases hr
  | .row t K, v, x, hr => by
    cases v <;> simp only [BSh.read] at hr <;> first | (cases hr; done) | skip
    split at hr
    · rename_i h; subst h
      split at hr
      · rename_i h; subst h; cases hr; rfl
      · cases hr
    · cases hr
  | .map KK KV, v, x, hr => by
    cases v <;> simp only [BSh.read] at hr <;> first | (cases hr; done) | skip
    split at hr
    · rename_i h; subst h
      split at hr
      · rename_i h; subst h; cases hr; rfl
      · cases hr
    · cases hr
  | .gone, v, x, hr => by cases v <;> first | rfl | (simp [BSh.read] at hr)

theorem shRead_fill : ∀ {hs : List Sh} {vs : List AV} {x : shDen hs}, shRead hs vs = some x → vs = shFill hs x
  | [], [], _, _ => rfl
  | h :: r, v :: vs, x, hr => by
    simp only [shRead] at hr
    split at hr
    · rename_i h1 h2
      cases hr
      simp only [shFill]
      rw [← Sh.read_fill h1, ← shRead_fill h2]
    · cases hr
  | [], _ :: _, _, h => by cases h
  | _ :: _, [], _, h => by cases h

theorem bshRead_fill : ∀ {hs : List BSh} {vs : List Blk} {x : bshDen hs}, bshRead hs vs = some x → vs = bshFill hs x
  | [], [], _, _ => rfl
  | h :: r, v :: vs, x, hr => by
    simp only [bshRead] at hr
    split at hr
    · rename_i h1 h2
      cases hr
      simp only [bshFill]
      rw [← BSh.read_fill h1, ← bshRead_fill h2]
    · cases hr
  | [], _ :: _, _, h => by cases h
  | _ :: _, [], _, h => by cases h

theorem argD_sound {out : A} {v : AV} {K : Kind} {k : K.den → Option A} (h : argD v K k = some out) : ∃ x, v = .p K x ∧ k x = some out := by
  unfold argD at h
  split at h
  · split at h
    · rename_i h'; subst h'; exact ⟨_, rfl, h⟩
    · cases h
  · cases h

section
variable {P : Program} {E : Env A} (T : TyOK P E) (fns : FnsOK P E) (hm : P.follows .mixedOrders = true) {out : A}
include T fns hm

theorem region_sound {id : Nat} {ops : Array Oper} {draw : Bool} {s : St} {k : St → Option A} (h : regionK E ops draw s k = some out) : ∃ s', k s' = some out ∧ CSem P E.gl (.region id ops draw) s .normal s' := by
  unfold regionK at h
  obtain ⟨ps, s', hc, hk⟩ := opsK_sound T fns h
  cases draw with
  | false =>
    refine ⟨s', by simpa using hk, chain_m hc, fun X a Q hr hq => wp_region ?_⟩
    have := chain_text hc (i := 0) (by simp) hr (Q := Q) fun Y a' h1 h2 h3 => hq Y a' h2 (h3.pevo _) h1
    rw [Array.length_toList, ← List.range_eq_range'] at this
    exact this
  | true =>
    simp only [cond_true, List.append_nil, List.reverse_reverse] at hk
    cases hi : indepB ops (ps.map Stp.fp) with
    | false => rw [hi] at hk; cases hk
    | true =>
      rw [hi] at hk
      have hlen : ps.length = ops.size := by rw [chain_len hc]; simp
      have I := indepB_spec hi hlen
      refine ⟨s', hk, chain_m hc, fun X a Q hr hq => wp_region_any hm ?_⟩
      obtain ⟨Z, h1, h2, hH, h3⟩ := drew_sound hr
      rw [← h1]
      have none_ : ∀ i, i < ops.size → (Array.replicate ops.size false).getD i true = false := fun i hi => by simp [Array.getD, hi]
      refine chain_any hc I ops.size _ Z a (by simp) (fun j o hj hl => ?_) (Nat.le_trans (List.length_filter_le _ _) (by simp)) ?_ fun Y a' g1 g2 g3 => hq Y a' (h2.trans g2) ((hH.trans g3).pevo _) g1
      · have : j < ops.size := by have := (List.getElem?_eq_some_iff.1 hj).1; simpa using this
        rw [none_ j this] at hl; cases hl
      · have : app (fun i => (Array.replicate ops.size false).getD i true) 0 ps s = s := by
          rw [app_same (S' := fun _ => false) ps 0 s fun k hk => by rw [Nat.zero_add, none_ k (by omega)]]
          exact app_none _ ps 0 s fun _ _ => rfl
        rw [this]; exact h3

theorem codeK_sound : ∀ {j : Nat} {c : Code}, (∀ q ∈ loopsOf j c, ∀ L, E.lps.lookup q.1 = some L → LoopOK P E.gl q.2 L) → ∀ {s : St} {k : Ex → St → Option A}, codeK E j c s k = some out → ∃ x s', k x s' = some out ∧ CSem P E.gl c s x s'
  | j, .skip, lo, s, k, h => ⟨.normal, s, h, rfl, fun X a Q hr hq => wp_skip (hq X a (.refl X) (.refl _ X) hr)⟩
  | j, .region id ops draw, lo, s, k, h => by
    obtain ⟨s', h1, h2⟩ := region_sound T fns hm (id := id) (by simpa [codeK] using h)
    exact ⟨.normal, s', h1, h2⟩
  | j, .seq c d, lo, s, k, h => by
    simp only [codeK] at h
    obtain ⟨x, s1, h1, hm1, h2⟩ := codeK_sound (fun q hq => lo q (by simp only [loopsOf, List.mem_append]; exact .inl hq)) h
    have other : ∀ (y : Ex), y ≠ .normal → x = y → k y s1 = some out → ∃ x s', k x s' = some out ∧ CSem P E.gl (.seq c d) s x s' := fun y hy hx hk =>
      ⟨y, s1, hk, hm1, fun X a Q hr hq => wp_seq (h2 X a _ hr fun Y a' W V R => by subst hx; have := hq Y a' W V R; cases x <;> first | exact absurd rfl hy | exact this)⟩
    cases x with
    | normal =>
      obtain ⟨y, s2, h3, hm2, h4⟩ := codeK_sound (c := d) (fun q hq => lo q (by simp only [loopsOf, List.mem_append]; exact .inr hq)) (s := s1) h1
      exact ⟨y, s2, h3, hm2.trans hm1, fun X a Q hr hq => wp_seq (h2 X a _ hr fun Y a' W V R => h4 Y a' Q R fun Z b WZ VZ RZ => hq Z b (W.trans WZ) (V.trans (hm1 ▸ VZ)) RZ)⟩
    | exit id => exact other (.exit id) (by simp) rfl h1
    | ret => exact other .ret (by simp) rfl h1
  | j, .cond c d e, lo, s, k, h => by
    simp only [codeK] at h
    split at h
    · rename_i t
      split at h
      · rename_i q hq
        have ev : ∀ {X : Cx} {a : Act}, Rel E.gl X s a → a.eval (.tmp t) = .bool q := fun {X a} hr => by
          have := hr.eval t
          rw [List.getD_eq_getElem?_getD, hq, Option.getD_some, RS.bool] at this
          exact this
        cases q with
        | true =>
          simp only [cond_true, St.put_same hq] at h
          obtain ⟨x, s1, h1, hm1, h2⟩ := codeK_sound (c := d) (fun q hq => lo q (by simp only [loopsOf, List.mem_append]; exact .inl hq)) (s := s) h
          exact ⟨x, s1, h1, hm1, fun X a Q hr hq => wp_cond_true (ev hr) (h2 X a Q hr hq)⟩
        | false =>
          simp only [cond_false, St.put_same hq] at h
          obtain ⟨x, s1, h1, hm1, h2⟩ := codeK_sound (c := e) (fun q hq => lo q (by simp only [loopsOf, List.mem_append]; exact .inr hq)) (s := s) h
          exact ⟨x, s1, h1, hm1, fun X a Q hr hq => wp_cond_false (ev hr) (h2 X a Q hr hq)⟩
      · cases h
    · rename_i q
      cases q with
      | true =>
        obtain ⟨x, s1, h1, hm1, h2⟩ := codeK_sound (c := d) (fun q hq => lo q (by simp only [loopsOf, List.mem_append]; exact .inl hq)) (s := s) h
        exact ⟨x, s1, h1, hm1, fun X a Q hr hq => wp_cond_true rfl (h2 X a Q hr hq)⟩
      | false =>
        obtain ⟨x, s1, h1, hm1, h2⟩ := codeK_sound (c := e) (fun q hq => lo q (by simp only [loopsOf, List.mem_append]; exact .inr hq)) (s := s) h
        exact ⟨x, s1, h1, hm1, fun X a Q hr hq => wp_cond_false rfl (h2 X a Q hr hq)⟩
    · cases h
  | j, .block id c, lo, s, k, h => by
    simp only [codeK] at h
    obtain ⟨x, s1, h1, hm1, h2⟩ := codeK_sound (c := c) (fun q hq => lo q (by simpa only [loopsOf] using hq)) h
    cases x with
    | normal => exact ⟨.normal, s1, h1, hm1, fun X a Q hr hq => wp_block (h2 X a _ hr hq)⟩
    | exit j =>
      simp only [blockC] at h1
      split at h1
      · rename_i hj
        exact ⟨.normal, s1, h1, hm1, fun X a Q hr hq => wp_block (h2 X a _ hr fun Y a' W V R => by simp only [Ex.out, Exit.inBlock, hj, if_true]; exact hq Y a' W V R)⟩
      · rename_i hj
        exact ⟨.exit j, s1, h1, hm1, fun X a Q hr hq => wp_block (h2 X a _ hr fun Y a' W V R => by simp only [Ex.out, Exit.inBlock, hj, if_false]; exact hq Y a' W V R)⟩
    | ret => exact ⟨.ret, s1, h1, hm1, fun X a Q hr hq => wp_block (h2 X a _ hr hq)⟩
  | j, .loop c, lo, s, k, h => by
    simp only [codeK] at h
    split at h
    · rename_i L hL
      obtain ⟨h, hc⟩ := canonK_sound h
      obtain ⟨x, s', h1, hm1, h2⟩ := lo (j, c) (by simp [loopsOf]) L hL _ _ _ h
      refine ⟨x, s', h1, hm1, fun X a Q hr hq => ?_⟩
      obtain ⟨Z, g1, g2, gp, g3⟩ := canon_sound hr L.dead hc
      rw [← g1]
      exact h2 Z a Q g3 fun V b WV PV RV => hq V b (g2.trans WV) (gp.trans PV) RV
    · cases h
  | j, .exit id, lo, s, k, h => ⟨.exit id, s, h, rfl, fun X a Q hr hq => wp_exit (hq X a (.refl X) (.refl _ X) hr)⟩
  | j, .ret, lo, s, k, h => ⟨.ret, s, h, rfl, fun X a Q hr hq => wp_ret (hq X a (.refl X) (.refl _ X) hr)⟩
  | _, .label _, _, _, _, h => by cases h
  | _, .goto _, _, _, _, h => by cases h
  | _, .scope _, _, _, _, h => by cases h

/-- The rounds of a loop. -/
theorem loopK_sound {j : Nat} {c : Code} (lo : ∀ q ∈ loopsOf j c, ∀ L, E.lps.lookup q.1 = some L → LoopOK P E.gl q.2 L) (dead xdead : List Nat) {k : Ex → St → Option A} : ∀ (f : Nat) (s : St), loopK (codeK E j c) dead xdead f s k = some out → ∃ x s', k x s' = some out ∧ RSem P E.gl c f s x s' := by
  intro f
  induction f with
  | zero => intro s h; cases h
  | succ f ih =>
    intro s h
    simp only [loopK] at h
    obtain ⟨x, s1, h1, hm1, h2⟩ := codeK_sound T fns hm lo h
    have other : x ≠ .normal → canonK xdead s1 (fun s' => k x s') = some out → ∃ x s', k x s' = some out ∧ RSem P E.gl c (f + 1) s x s' := fun hy hk => by
      obtain ⟨hk, hc⟩ := canonK_sound hk
      exact ⟨x, canon xdead s1, hk, hm1, fun X a Q hr hq => by
        rw [rounds_succ]
        refine h2 X a _ hr fun Y a' W V R => ?_
        obtain ⟨Z, g1, g2, gp, g3⟩ := canon_sound R xdead hc
        have := hq Z a' (W.trans g2) (V.trans (hm1 ▸ gp)) g3
        rw [g1] at this
        cases x <;> first | exact absurd rfl hy | exact this⟩
    cases x with
    | normal =>
      obtain ⟨h1, hc⟩ := canonK_sound h1
      obtain ⟨y, s2, h3, hm2, h4⟩ := ih _ h1
      refine ⟨y, s2, h3, hm2.trans hm1, fun X a Q hr hq => ?_⟩
      rw [rounds_succ]
      refine h2 X a _ hr fun Y a' W V R => ?_
      obtain ⟨Z, g1, g2, gp, g3⟩ := canon_sound R dead hc
      show Code.rounds P c Q f a' Y.w
      rw [← g1]
      have gp' : PEvo s.m Y Z := hm1 ▸ gp
      exact h4 Z a' Q g3 fun U b WV PV RV => hq U b ((W.trans g2).trans WV) ((V.trans gp').trans (hm1 ▸ PV)) RV
    | exit id => exact other (by simp) h1
    | ret => exact other (by simp) h1

/-- A loop's entry, by the equation of its function. -/
theorem LoopOK.of {j n : Nat} {c : Code} (lo : ∀ q ∈ loopsOf j c, ∀ L, E.lps.lookup q.1 = some L → LoopOK P E.gl q.2 L) {dead xdead : List Nat} {S : Shape} {g : S.den → (Ex → St → Option A) → Option A}
    (h : ∀ d k, loopK (codeK E j c) dead xdead n (S.fill d) k = g d k) : LoopOK P E.gl c (loopE dead S g) := by
  intro s k out hr
  simp only [loopE] at hr
  split at hr
  · rename_i hm0
    split at hr
    · rename_i x y hx hy
      have hs : s = S.fill (x, y) := by
        obtain ⟨tm, hp, m⟩ := s
        simp only at hx hy hm0
        subst hm0
        rw [shRead_fill hx, bshRead_fill hy]
        rfl
      rw [← h] at hr
      obtain ⟨x', s', h1, hm1, h2⟩ := loopK_sound T fns hm lo dead xdead n _ hr
      rw [← hs] at hm1 h2
      exact ⟨x', s', h1, hm1, fun X a Q hr hq => wp_loop_rounds n (h2 X a Q hr hq)⟩
    · cases hr
  · cases hr
end
end Go.Ev
end

section
/-
  FUNCTIONS: from the evaluator's run of a body to what a call does.
-/
namespace Go.Ev
variable {A : Type}

theorem lookup_zipIdx {hp : List Blk} {id : Nat} {b : Blk} (h : (hp.zipIdx.map fun q => (q.2, q.1)).lookup id = some b) : hp[id]? = some b := by
  obtain ⟨l1, l2, h1, _⟩ := List.lookup_eq_some_iff.1 h
  have : (id, b) ∈ hp.zipIdx.map fun q => (q.2, q.1) := by rw [h1]; simp
  rw [List.mem_map] at this
  obtain ⟨q, hq, e⟩ := this
  rw [List.mem_zipIdx_iff_getElem?] at hq
  cases e; exact hq

theorem look_zip {hp : List Blk} {out : A} {id : Nat} {k : Blk → Option A} (h : look (hp.zipIdx.map fun q => (q.2, q.1)) id k = some out) : ∃ b, hp[id]? = some b ∧ k b = some out := by
  obtain ⟨b, hb, h⟩ := look_sound h
  exact ⟨b, lookup_zipIdx hb, h⟩

/-- What an address leads to. -/
theorem loadK_at {out : A} {hp : List Blk} {a : AV} {k : AV → Option A} (h : loadK (hp.zipIdx.map fun q => (q.2, q.1)) a k = some out) :
    ∃ y, k y = some out ∧ ∀ (X : Cx) (u : Value), X.hp = hp → Ok X → RS X a u → ∃ ad cs, u = .pointer (some ad) ∧ RA X y cs ∧ ∀ j v, cs[j]? = some v → X.w.cell? (ad.add j) = some v := by
  unfold loadK at h
  split at h
  · rename_i K x
    refine ⟨_, h, fun X u hX ok h1 => ?_⟩
    obtain ⟨ad, cs, h2, _, h3, h4⟩ := (RS.one (by simp) (by simp) (by simp) (by simp)).1 h1
    exact ⟨ad, cs, h2, h3, h4⟩
  · rename_i id path
    obtain ⟨B, hB, h⟩ := look_zip h
    split at h
    · rename_i t' K av
      obtain ⟨y, h, hs⟩ := getV_sound h
      refine ⟨_, h, fun X u hX ok h1 => ?_⟩
      rw [← hX] at hB
      obtain ⟨b, off, K', h2, h3, h4⟩ := (R1_ptr hB).1 ((RS.one (by simp) (by simp) (by simp) (by simp)).1 h1)
      obtain ⟨hfv, b', cs, h5, h6, h7⟩ := ok.blk _ _ hB
      rw [h2] at h5; cases h5
      obtain ⟨off', K'', h8, _, h9⟩ := hs hfv h7
      rw [h3] at h8; cases h8
      refine ⟨_, _, h4, h9, fun j u hj => ?_⟩
      rw [add_lit, cell_of_row _ _ _ _ _ _ h6]
      simpa using cut_get hj
    · rename_i t' K xs
      split at h
      · rename_i i0 r _
        obtain ⟨y0, hy0, h⟩ := Option.bind_eq_some_iff.1 h
        obtain ⟨K', y, h, hs⟩ := getK_sound h
        refine ⟨_, h, fun X u hX ok h1 => ?_⟩
        rw [← hX] at hB
        obtain ⟨b, i', r', off, K1, hp, hlt, h2, h3, h4⟩ := (R1_ptrR hB).1 ((RS.one (by simp) (by simp) (by simp) (by simp)).1 h1)
        simp only [List.cons.injEq, Hop.idx.injEq] at hp
        obtain ⟨rfl, rfl⟩ := hp
        obtain ⟨cur, cap, css, h5, h6, h7, _, h8, h9, h10⟩ := row_cells (ok.blk _ _ hB) h2
        obtain ⟨cs, h11, h12⟩ := elem_cells h8 h10 hy0
        obtain ⟨off', h13, h14⟩ := hs h11
        rw [h3] at h13; cases h13
        refine ⟨_, _, h4, (show RA X (.p K' y) _ from h14), fun j u hj => ?_⟩
        have := h12 _ _ (cut_get hj)
        rw [add_lit, add_lit] at this
        rw [add_lit, show i0 * K.size + off + j = 0 + i0 * K.size + (off + j) by omega]
        exact this
      · cases h
    · cases h
  · cases h

def tupV : List Value → Value
  | [v] => v
  | vs => .tuple vs.toArray

def resV (tmps : Array Value) : ResultVar → Sem Value
  | .tmp t => pure (tmps.getD t undef)
  | .cell a t => do loadVar t (← asAddr (tmps.getD a undef))

theorem results_one {P : Program} {fn : Func} {tmps : Array Value} {w : World} {us : List Value} (h : (fn.results.toList.mapM (resV tmps)).run P w = .ok us w) :
    (results fn tmps).run P w = .ok (tupV us) w := by
  have hg : ∀ g : ResultVar → Sem Value, (∀ x, g x = resV tmps x) → (fn.results.toList.mapM g).run P w = .ok us w := fun g hg => by rw [show g = resV tmps from funext hg]; exact h
  unfold results
  simp only [Array.mapM_eq_mapM_toList, Sem.run_bind, Sem.run_map]
  rw [hg _ (fun x => by cases x <;> rfl)]
  simp only [Result.andThen_ok, Sem.run_pure]
  match us with
  | [] => rfl
  | [t] => rfl
  | _ :: _ :: _ => rfl

theorem resultsK_sound {P : Program} {E : Env A} (T : TyOK P E) {out : A} {s : St} : ∀ {rs : List ResultVar} {k : List AV → Option A}, resultsK E s rs k = some out →
    ∃ vs, k vs = some out ∧ ∀ (X : Cx) (a : Act), Rel E.gl X s a → ∃ us, (rs.mapM (resV a.tmps)).run P X.w = .ok us X.w ∧ All2 (RS X) vs us
  | [], k, h => ⟨[], h, fun X a _ => ⟨[], by simp, .nil⟩⟩
  | .tmp t :: r, k, h => by
    simp only [resultsK] at h
    obtain ⟨vs, h, h2⟩ := resultsK_sound T h
    refine ⟨_, h, fun X a R => ?_⟩
    obtain ⟨us, h3, h4⟩ := h2 X a R
    refine ⟨a.tmps.getD t undef :: us, ?_, .cons (R.eval t) h4⟩
    simp only [List.mapM_cons, Sem.run_bind, resV, Sem.run_pure, Result.andThen_ok]
    rw [h3]; rfl
  | .cell t ty :: r, k, h => by
    simp only [resultsK] at h
    obtain ⟨y, h, hl⟩ := loadK_at h
    obtain ⟨i, hi, h⟩ := ti_sound h
    split at h
    · rename_i hf
      obtain ⟨vs, h, h2⟩ := resultsK_sound T h
      refine ⟨_, h, fun X a R => ?_⟩
      obtain ⟨us, h3, h4⟩ := h2 X a R
      obtain ⟨ad, cs, g1, g2, g3⟩ := hl X _ R.hp R.ok (R.eval t)
      obtain ⟨v, g4, g5⟩ := load_sound T hi hf g2 g3
      refine ⟨v :: us, ?_, .cons (RS.of0 g5 (fits_noTup hf)) h4⟩
      have g1 : a.tmps.getD t undef = .pointer (some ad) := g1
      simp only [List.mapM_cons, Sem.run_bind, resV, g1]
      simp only [asAddr, Sem.run_pure, Result.andThen_ok, g4]
      rw [h3]; rfl
    · cases h

/-- What is given, each by its kind of giving. -/
inductive Given (X : Cx) : List RMode → List AV → List AV → Prop where
  | nil : Given X [] [] []
  | pure {v : AV} {ms : List RMode} {vs rs : List AV} {K : Kind} {x : K.den} (h : ∀ {F : Nat → Prop} {cs : List Value}, (∀ b, X.F b → F b) → (∀ b, X.Held v.ids b → F b) → RA X v cs → RP F X.w K x cs ∧ v.agg = K.isAgg)
      (hn : v.isAny = false) (ht : v.isTup = false) (r : Given X ms vs rs) : Given X (.pure :: ms) (v :: vs) (.p K x :: rs)
  | own {v : AV} {ms : List RMode} {vs rs : List AV} (ht : v.isTup = false) (r : Given X ms vs rs) : Given X (.own :: ms) (v :: vs) (v :: rs)

theorem giveK_sound {out : A} {hp : List Blk} : ∀ {ms : List RMode} {vs : List AV} {k : List AV → Option A}, giveK (hp.zipIdx.map fun q => (q.2, q.1)) ms vs k = some out →
    ∃ rs, k rs = some out ∧ ∀ X : Cx, X.hp = hp → Ok X → Given X ms vs rs
  | [], [], k, h => ⟨[], h, fun _ _ _ => .nil⟩
  | .pure :: ms, v :: vs, k, h => by
    simp only [giveK] at h
    have h0 := h
    obtain ⟨K, x, h, _, h1⟩ := pureK_sound h
    obtain ⟨rs, h, h2⟩ := giveK_sound h
    refine ⟨_, h, fun X hX ok => .pure (fun {F cs} hF hH hr => h1 ok (fun id b hb => by rw [hX]; exact lookup_zipIdx hb) hF hH hr) ?_ ?_ (h2 X hX ok)⟩
    · cases v <;> first | rfl | (simp [pureK] at h0)
    · cases v <;> first | rfl | (simp [pureK] at h0)
  | .own :: ms, v :: vs, k, h => by
    simp only [giveK] at h
    split at h
    · cases h
    · rename_i ht
      obtain ⟨rs, h, h2⟩ := giveK_sound h
      exact ⟨_, h, fun X hX ok => .own (by simpa using ht) (h2 X hX ok)⟩
  | [], _ :: _, k, h => by cases h
  | .pure :: _, [], k, h => by cases h
  | .own :: _, [], k, h => by cases h

theorem given_sound {X Z : Cx} {f : Nat → Option Nat} (EM : Emb X Z f true) {G : List Nat} (hF : Z.F = fun b => X.F b ∨ X.Held G b) : ∀ {ms : List RMode} {vs rs : List AV}, Given X ms vs rs → (∀ x ∈ viewIds ms vs, x ∈ G) → ∀ {us : List Value}, All2 (RS X) vs us →
    All2 (RS0 Z) (rs.map fun v => v.ren1 f) us
  | _, _, _, .nil, _, us, h => by cases h; exact .nil
  | _, _, _, @Given.pure _ v ms vs rs K x h hn ht r, hG, us, hr => by
    cases hr with
    | @cons _ u _ us h1 hr =>
      have htup : ∀ ws, v ≠ AV.tup ws := fun ws e => by rw [e] at ht; cases ht
      refine .cons ?_ (given_sound EM hF r (fun x hx => hG x (by simp only [viewIds, List.mem_append]; exact .inr hx)) hr)
      rcases h1.to0 htup with h3 | ⟨cs, h3, h4⟩
      · rw [hn] at h3; cases h3
      · obtain ⟨g1, g2⟩ := h (F := Z.F) (fun b hb => by rw [hF]; exact .inl hb) (fun b hb => by
          rw [hF]; right
          obtain ⟨id, hid, r⟩ := hb
          exact ⟨id, hG id (by simp only [viewIds, List.mem_append]; exact .inl hid), r⟩) h3
        refine .inr ⟨cs, ?_, ?_⟩
        · show RP Z.F Z.w _ _ _
          rw [EM.w]; exact g1
        · rw [g2] at h4; exact h4
  | _, _, _, @Given.own _ v ms vs rs ht r, hG, us, hr => by
    cases hr with
    | @cons _ u _ us h1 hr =>
      have htup : ∀ ws, v ≠ AV.tup ws := fun ws e => by rw [e] at ht; cases ht
      exact .cons (RS0.emb EM (fun _ => rfl) (h1.to0 htup)) (given_sound EM hF r (fun x hx => hG x (by simpa [viewIds] using hx)) hr)

theorem Given.noTup {X : Cx} : ∀ {ms : List RMode} {vs rs : List AV}, Given X ms vs rs → ∀ v ∈ rs, v.isTup = false
  | _, _, _, .nil, v, h => by cases h
  | _, _, _, .pure _ _ _ r, v, h => by rcases List.mem_cons.1 h with rfl | h; rfl; exact r.noTup v h
  | _, _, _, .own ht r, v, h => by rcases List.mem_cons.1 h with rfl | h; exact ht; exact r.noTup v h

theorem ren1_noTup {v : AV} {f : Nat → Option Nat} (h : v.isTup = false) : ∀ ws, v.ren1 f ≠ .tup ws := by
  intro ws e
  cases v <;> first | (cases h; done) | (simp only [AV.ren1] at e; split at e <;> cases e; done) | (cases e; done)

theorem endK_sound {P : Program} {E : Env A} (T : TyOK P E) {fn : Func} {rm : List RMode} {k : AV → List Blk → Option A} {out : A} {x : Ex} {s' : St} (h : endK E fn rm k x s' = some out) :
    ∃ (r : AV) (hp : List Blk) (vs rs : List AV) (l : List Nat), k r hp = some out ∧ (x.out = .normal ∨ x.out = .ret) ∧ (∀ (X : Cx) (a : Act), Rel E.gl X s' a → ∃ us, (results fn a.tmps).run P X.w = .ok (tupV us) X.w ∧ All2 (RS X) vs us) ∧ (∀ X : Cx, X.hp = s'.hp → Ok X → Given X rm vs rs) ∧
        l.Nodup ∧ (∀ y ∈ viewIds rm vs, y ∉ l) ∧ (l.take s'.m == List.range s'.m) = true ∧ r = tupOf (rs.map fun v => v.ren1 (pos l)) ∧ hp = l.map fun id => (s'.hp.getD id .gone).ren (pos l) := by
  have main : ∀ (h : (resultsK E s' fn.results.toList fun vs => giveK (s'.hp.zipIdx.map fun q => (q.2, q.1)) rm vs fun rs =>
      let l := closure (blkIds s'.hp) 1000 (List.range s'.m ++ rs.flatMap AV.ids) []
      bif disjointB (viewIds rm vs) l && (l.take s'.m == List.range s'.m) then k (tupOf (rs.map fun v => v.ren1 (pos l))) (l.map fun id => (s'.hp.getD id .gone).ren (pos l)) else none) = some out),
      (x.out = .normal ∨ x.out = .ret) → ∃ (r : AV) (hp : List Blk) (vs rs : List AV) (l : List Nat), k r hp = some out ∧ (x.out = .normal ∨ x.out = .ret) ∧ (∀ (X : Cx) (a : Act), Rel E.gl X s' a → ∃ us, (results fn a.tmps).run P X.w = .ok (tupV us) X.w ∧ All2 (RS X) vs us) ∧ (∀ X : Cx, X.hp = s'.hp → Ok X → Given X rm vs rs) ∧
        l.Nodup ∧ (∀ y ∈ viewIds rm vs, y ∉ l) ∧ (l.take s'.m == List.range s'.m) = true ∧ r = tupOf (rs.map fun v => v.ren1 (pos l)) ∧ hp = l.map fun id => (s'.hp.getD id .gone).ren (pos l) := by
    intro h hx
    obtain ⟨vs, h, hts⟩ := resultsK_sound T h
    obtain ⟨rs, h, hg⟩ := giveK_sound h
    have hnd : (closure (blkIds s'.hp) 1000 (List.range s'.m ++ rs.flatMap AV.ids) []).Nodup := closure_nodup _ _ _ _ (by simp)
    simp only at h
    generalize closure (blkIds s'.hp) 1000 (List.range s'.m ++ rs.flatMap AV.ids) [] = l at h hnd
    cases hd : disjointB (viewIds rm vs) l && (l.take s'.m == List.range s'.m) with
    | false => rw [hd] at h; cases h
    | true =>
      rw [hd] at h
      rw [Bool.and_eq_true] at hd
      exact ⟨_, _, vs, rs, l, h, hx, fun X a R => (hts X a R).imp fun us h => ⟨results_one h.1, h.2⟩, hg, hnd, disjointB_spec hd.1, hd.2, rfl, rfl⟩
  cases x with
  | normal => exact main h (.inl rfl)
  | ret => exact main h (.inr rfl)
  | exit j => cases h

/-- The function of a table, with code, and what it is called with. -/
structure Body (P : Program) (f : FuncId) (fn : Func) : Prop where
  get : P.funcs[f]? = some fn
  name : (fn.name == "runtime.NumGoroutine") = false

theorem fnK_calls {P : Program} {E : Env A} (T : TyOK P E) (fns : FnsOK P E) (hm : P.follows .mixedOrders = true) {f : FuncId} {fn : Func} (B : P.funcs[f]? = some fn) (lo : ∀ c, fn.body = some c → ∀ q ∈ loopsOf 0 c, ∀ L, E.lps.lookup q.1 = some L → LoopOK P E.gl q.2 L) {rm : List RMode} {args : List AV} {hp0 : List Blk} {k : AV → List Blk → Option A} {out : A}
    (h : fnK E fn rm args hp0 k = some out) : ∃ r hp, k r hp = some out ∧ (fn.body.isSome = true) ∧ ∀ (X : Cx) (vals : Array Value), X.hp = hp0 → Ok X → GOK E.gl X → All2 (RS X) args vals.toList →
      Calls P f vals X.w fun e w' => ∃ u, e = .returned u ∧ ∃ Y : Cx, Y.w = w' ∧ Y.hp = hp ∧ RS Y r u ∧ Ok Y ∧ WEvo X Y ∧ PEvo hp0.length X Y := by
  unfold fnK at h
  split at h
  · rename_i c hc
    obtain ⟨x, s', h, hsm, hsem⟩ := codeK_sound T fns hm (lo c hc) h
    obtain ⟨r, hp, vs, rs, l, hk, hx, hts, hgiven, hnd, hdis, hpin, rfl, rfl⟩ := endK_sound T h
    refine ⟨_, _, hk, by rw [hc]; rfl, fun X vals hX okX hglo hargs => ?_⟩
    have hlen : args.length = vals.size := by simpa using hargs.length
    -- the start
    have R0 : Rel E.gl X { tm := args ++ List.replicate (fn.ntmps - args.length) .any, hp := hp0, m := hp0.length } { tmps := vals ++ Array.replicate (fn.ntmps - vals.size) undef, defers := [] } := by
      refine ⟨hglo, rfl, by simp [hlen], fun i av hi => ?_, hX, okX⟩
      simp only at hi
      rw [List.getElem?_append] at hi
      split at hi
      · rename_i hlt
        obtain ⟨v, h1, h2⟩ := hargs.get hi
        refine ⟨v, ?_, h2⟩
        simp only
        rw [Array.getElem?_append_left (by omega)]
        rw [← Array.getElem?_toList]; exact h1
      · rename_i hlt
        rw [List.getElem?_replicate] at hi
        split at hi
        · rename_i h2
          cases hi
          refine ⟨undef, ?_, RS.any _⟩
          simp only
          rw [Array.getElem?_append_right (by omega), Array.getElem?_replicate, if_pos (by omega)]
        · cases hi
    refine calls_of_wp B hc (hsem X _ (bodyPost P fn _) R0 fun Y a' W V R => ?_)
    -- the end
    obtain ⟨Z, z1, z2, z3, z4, z5, z6⟩ := renumber R.hp R.ok hnd hdis
    obtain ⟨us, hrun, hus⟩ := hts Y a' R
    have G := hgiven Y R.hp R.ok
    have hrs := given_sound z6 z3 G (fun _ h => h) hus
    have hnt := G.noTup
    have hpin : (l.take hp0.length == List.range hp0.length) = true := by simpa only [hsm] using hpin
    have V : PEvo hp0.length X Y := V
    have fin : bodyPost P fn (fun e w' => ∃ u, e = .returned u ∧ ∃ Y : Cx, Y.w = w' ∧ Y.hp = (l.map fun id => (s'.hp.getD id .gone).ren (pos l)) ∧ RS Y (tupOf (rs.map fun v => v.ren1 (pos l))) u ∧ Ok Y ∧ WEvo X Y ∧ PEvo hp0.length X Y) .normal a' Y.w := by
      refine ⟨R.defers, _, hrun, _, rfl, Z, z1, z2, ?_, z4, W.trans z5, V.trans (z6.pevo hnd hpin)⟩
      clear hus hrun
      cases hrs' : rs with
      | nil => rw [hrs'] at hrs; cases hrs; exact ⟨#[], rfl, .nil⟩
      | cons v rs1 =>
        rw [hrs'] at hrs
        cases rs1 with
        | nil =>
          cases hrs with
          | cons h1 h2 =>
            cases h2
            exact RS.of0 h1 (ren1_noTup (hnt v (by rw [hrs']; simp)))
        | cons v2 rs2 =>
          cases hrs with
          | cons h1 h2 =>
            cases h2 with
            | cons h2 h3 =>
              exact ⟨_, rfl, by simpa using All2.cons h1 (.cons h2 h3)⟩
    rcases hx with hx | hx <;> rw [hx] <;> exact fin
  · cases h

theorem fnK_sound {P : Program} {E : Env A} (T : TyOK P E) (fns : FnsOK P E) (hm : P.follows .mixedOrders = true) {f : FuncId} {fn : Func} (B : Body P f fn) (lo : ∀ c, fn.body = some c → ∀ q ∈ loopsOf 0 c, ∀ L, E.lps.lookup q.1 = some L → LoopOK P E.gl q.2 L) {rm : List RMode} {args : List AV} {hp0 : List Blk} {k : AV → List Blk → Option A} {out : A}
    (h : fnK E fn rm args hp0 k = some out) : ∃ r hp, k r hp = some out ∧ FnSem P E.gl f args hp0 r hp := by
  obtain ⟨r, hp, h1, hb, h2⟩ := fnK_calls T fns hm B.get lo h
  refine ⟨r, hp, h1, fun X vals hX ok hglo hargs => ?_⟩
  obtain ⟨c, hc⟩ := Option.isSome_iff_exists.1 hb
  exact ⟨_, X.w, MuLone.run_callFunc_enter B.get B.name hc vals X.w, .inr ⟨rfl, h2 X vals hX ok hglo hargs⟩⟩

/-- An entry that runs a body: its arguments are data. -/
theorem FnOK.of {P : Program} {E : Env A} (T : TyOK P E) (fns : FnsOK P E) (hm : P.follows .mixedOrders = true) {f : FuncId} {fn : Func} (B : Body P f fn) (lo : ∀ c, fn.body = some c → ∀ q ∈ loopsOf 0 c, ∀ L, E.lps.lookup q.1 = some L → LoopOK P E.gl q.2 L) {rm : List RMode} {g : List AV → (AV → List Blk → Option A) → Option A}
    (h : ∀ args k out, g args k = some out → fnK E fn rm args [] k = some out) : FnOK P E.gl f (pureE g) := fun args hp0 k out hr => by
  cases hp0 with
  | nil => exact fnK_sound T fns hm B lo (h args k out hr)
  | cons b r => cases hr

/-- An entry that runs a body, handed blocks of a form. -/
theorem FnOK.ofOwn {P : Program} {E : Env A} (T : TyOK P E) (fns : FnsOK P E) (hm : P.follows .mixedOrders = true) {f : FuncId} {fn : Func} (B : Body P f fn) (lo : ∀ c, fn.body = some c → ∀ q ∈ loopsOf 0 c, ∀ L, E.lps.lookup q.1 = some L → LoopOK P E.gl q.2 L) {rm : List RMode} {own : List Bool} {S : Shape} {g : S.den → (AV → List Blk → Option A) → Option A}
    (h : ∀ d k, fnK E fn rm (shFill S.tm d.1) (bshFill S.hp d.2) k = g d k) : FnOK P E.gl f (ownE own S g) := fun args hp0 k out hr => by
  simp only [ownE] at hr
  split at hr
  · rename_i x y hx hy
    rw [← h] at hr
    rw [shRead_fill hx, bshRead_fill hy]
    exact fnK_sound T fns hm B lo hr
  · cases hr


-- ------------------------------------------------------------ for what is printed

theorem args0_sound {out : A} {args : List AV} {g : Option A} (h : args0 args g = some out) : args = [] ∧ g = some out := by
  unfold args0 at h; split at h
  · exact ⟨rfl, h⟩
  · cases h
theorem args1_sound {out : A} {args : List AV} {K0 : Kind} {g : K0.den → Option A} (h : args1 args K0 g = some out) : ∃ a0, args = [.p K0 a0] ∧ g a0 = some out := by
  unfold args1 at h; split at h
  · obtain ⟨a0, e0, h0⟩ := argD_sound h
    exact ⟨a0, by rw [e0], h0⟩
  · cases h
theorem args2_sound {out : A} {args : List AV} {K0 K1 : Kind} {g : K0.den → K1.den → Option A} (h : args2 args K0 K1 g = some out) : ∃ a0 a1, args = [.p K0 a0, .p K1 a1] ∧ g a0 a1 = some out := by
  unfold args2 at h; split at h
  · obtain ⟨a0, e0, h0⟩ := argD_sound h
    obtain ⟨a1, e1, h1⟩ := argD_sound h0
    exact ⟨a0, a1, by rw [e0, e1], h1⟩
  · cases h
theorem args3_sound {out : A} {args : List AV} {K0 K1 K2 : Kind} {g : K0.den → K1.den → K2.den → Option A} (h : args3 args K0 K1 K2 g = some out) : ∃ a0 a1 a2, args = [.p K0 a0, .p K1 a1, .p K2 a2] ∧ g a0 a1 a2 = some out := by
  unfold args3 at h; split at h
  · obtain ⟨a0, e0, h0⟩ := argD_sound h
    obtain ⟨a1, e1, h1⟩ := argD_sound h0
    obtain ⟨a2, e2, h2⟩ := argD_sound h1
    exact ⟨a0, a1, a2, by rw [e0, e1, e2], h2⟩
  · cases h
theorem args4_sound {out : A} {args : List AV} {K0 K1 K2 K3 : Kind} {g : K0.den → K1.den → K2.den → K3.den → Option A} (h : args4 args K0 K1 K2 K3 g = some out) : ∃ a0 a1 a2 a3, args = [.p K0 a0, .p K1 a1, .p K2 a2, .p K3 a3] ∧ g a0 a1 a2 a3 = some out := by
  unfold args4 at h; split at h
  · obtain ⟨a0, e0, h0⟩ := argD_sound h
    obtain ⟨a1, e1, h1⟩ := argD_sound h0
    obtain ⟨a2, e2, h2⟩ := argD_sound h1
    obtain ⟨a3, e3, h3⟩ := argD_sound h2
    exact ⟨a0, a1, a2, a3, by rw [e0, e1, e2, e3], h3⟩
  · cases h

theorem tyOK_of {P : Program} {E : Env A} {tys : List (TypeId × TI)} (he : E.ty = tys) (h : tys.all (tyB P tys) = true) : TyOK P E := fun t i hi => by
  subst he
  rw [List.all_eq_true] at h
  obtain ⟨l1, l2, h1, _⟩ := List.lookup_eq_some_iff.1 hi
  exact h (t, i) (by rw [h1]; simp)

def AllOK (P : Program) (gl : GL) (l : List (FuncId × Entry A)) : Prop := ∀ f en, l.lookup f = some en → FnOK P gl f en
theorem AllOK.nil {P : Program} {gl : GL} : AllOK (A := A) P gl [] := fun _ _ h => nomatch h
theorem AllOK.cons {P : Program} {gl : GL} {f : FuncId} {en : Entry A} {l : List (FuncId × Entry A)} (h : FnOK P gl f en) (r : AllOK P gl l) : AllOK P gl ((f, en) :: l) := fun g e hg => by
  rw [List.lookup_cons] at hg
  split at hg
  · rename_i hb; cases hg; rw [eq_of_beq hb]; exact h
  · exact r g e hg
theorem AllOK.env {P : Program} {gl : GL} {E : Env A} {l : List (FuncId × Entry A)} (he : E.fns = l) (hg : E.gl = gl) (h : AllOK P gl l) : FnsOK P E := fun f en hf => by rw [hg]; exact h f en (by rw [← he]; exact hf)

theorem lo_nil {P : Program} {E : Env A} : ∀ q ∈ ([] : List (Nat × Code)), ∀ L, E.lps.lookup q.1 = some L → LoopOK P E.gl q.2 L := fun _ h => nomatch h
theorem lo_cons {P : Program} {E : Env A} {j : Nat} {c : Code} {L0 : Loop A} {r : List (Nat × Code)} (hl : E.lps.lookup j = some L0) (h : LoopOK P E.gl c L0) (hr : ∀ q ∈ r, ∀ L, E.lps.lookup q.1 = some L → LoopOK P E.gl q.2 L) :
    ∀ q ∈ (j, c) :: r, ∀ L, E.lps.lookup q.1 = some L → LoopOK P E.gl q.2 L := fun q hq L hL => by
  rcases List.mem_cons.1 hq with rfl | hq
  · rw [hl] at hL; cases hL; exact h
  · exact hr q hq L hL
theorem lo_of {P : Program} {E : Env A} {j : Nat} {c : Code} {r : List (Nat × Code)} (he : loopsOf j c = r) (hr : ∀ q ∈ r, ∀ L, E.lps.lookup q.1 = some L → LoopOK P E.gl q.2 L) : ∀ q ∈ loopsOf j c, ∀ L, E.lps.lookup q.1 = some L → LoopOK P E.gl q.2 L := by rw [he]; exact hr
theorem lo_body {P : Program} {E : Env A} {fn : Func} {c0 : Code} (hb : fn.body = some c0) (h : ∀ q ∈ loopsOf 0 c0, ∀ L, E.lps.lookup q.1 = some L → LoopOK P E.gl q.2 L) : ∀ c, fn.body = some c → ∀ q ∈ loopsOf 0 c, ∀ L, E.lps.lookup q.1 = some L → LoopOK P E.gl q.2 L := fun c hc => by
  rw [hb] at hc; cases hc; exact h

end Go.Ev
end

section
/-
  ARGUMENTS AS A ROW READS THEM: data of our kinds.
-/
namespace Go.Ev
variable {A : Type}

def Kind.noOpq : Kind → Bool
  | .opq => false
  | .pair a b => a.noOpq && b.noOpq
  | .arr _ e => e.noOpq
  | .sl e => e.noOpq
  | _ => true

/-- What a row's reading of an argument tells of it: numbers fit, lengths are modest. -/
def WF : (K : Kind) → K.den → Prop
  | .int k => fun (n : Int) => k.min ≤ n ∧ n ≤ k.max
  | .bool => fun _ => True
  | .str => fun (s : ByteArray) => s.size ≤ maxLen
  | .opq => fun _ => True
  | .unit => fun _ => True
  | .pair a b => fun (x : a.den × b.den) => WF a x.1 ∧ WF b x.2
  | .arr n e => fun (l : List e.den) => l.length = n ∧ ∀ x ∈ l, WF e x
  | .sl e => fun (l : List e.den) => l.length ≤ maxLen ∧ ∀ x ∈ l, WF e x

theorem mapM_some {α β : Type} {f : α → Option β} : ∀ {l : List α} {ys : List β}, l.mapM f = some ys → ∀ x ∈ l, ∃ y, f x = some y
  | [], _, _, x, hx => by cases hx
  | a :: l, ys, h, x, hx => by
    simp only [List.mapM_cons, Option.bind_eq_bind, Option.bind_eq_some_iff] at h
    obtain ⟨y, hy, zs, hz, _⟩ := h
    rcases List.mem_cons.1 hx with rfl | hx
    · exact ⟨y, hy⟩
    · exact mapM_some hz x hx

theorem mapM_len {α β : Type} {f : α → Option β} : ∀ {l : List α} {ys : List β}, l.mapM f = some ys → ys.length = l.length ∧ ∀ (i : Nat) (x : α), l[i]? = some x → ∃ y, ys[i]? = some y ∧ f x = some y
  | [], ys, h => by simp at h; subst h; simp
  | a :: l, ys, h => by
    simp only [List.mapM_cons, Option.bind_eq_bind, Option.bind_eq_some_iff] at h
    obtain ⟨y, hy, zs, hz, h⟩ := h
    simp at h; subst h
    obtain ⟨h1, h2⟩ := mapM_len hz
    refine ⟨by simp [h1], fun i x hi => ?_⟩
    cases i with
    | zero => simp at hi; subst hi; exact ⟨y, by simp, hy⟩
    | succ i => simp at hi; simpa using h2 i x hi

theorem all2_choose {α β γ : Type} {R : α → β → Prop} {g : γ → β} : ∀ {is : List γ}, (∀ i ∈ is, ∃ x, R x (g i)) → ∃ xs, All2 R xs (is.map g)
  | [], _ => ⟨[], .nil⟩
  | i :: is, h => by
    obtain ⟨x, hx⟩ := h i (by simp)
    obtain ⟨xs, hxs⟩ := all2_choose (is := is) fun i hi => h i (by simp [hi])
    exact ⟨x :: xs, .cons hx hxs⟩

theorem All2.left {α β : Type} {R : α → β → Prop} {xs : List α} {ys : List β} (h : All2 R xs ys) : ∀ x ∈ xs, ∃ y ∈ ys, R x y := fun x hx => by
  obtain ⟨i, hi⟩ := List.mem_iff_getElem?.1 hx
  obtain ⟨y, hy, hr⟩ := h.get hi
  exact ⟨y, List.mem_of_getElem? hy, hr⟩

theorem flatten_get {css : List (List Value)} {m : Nat} (h : ∀ c ∈ css, c.length = m) : ∀ {j : Nat} {v : Value}, css.flatten[j]? = some v → ∃ i c o, css[i]? = some c ∧ o < m ∧ j = i * m + o ∧ c[o]? = some v := by
  induction css with
  | nil => intro j v h; simp at h
  | cons c css ih =>
    intro j v hj
    have hc := h c (by simp)
    rw [List.flatten_cons, List.getElem?_append] at hj
    split at hj
    · rename_i hlt
      exact ⟨0, c, j, by simp, by omega, by simp, hj⟩
    · rename_i hge
      obtain ⟨i, d, o, h1, h2, h3, h4⟩ := ih (fun c hc => h c (by simp [hc])) hj
      exact ⟨i + 1, d, o, by simpa using h1, h2, by rw [Nat.add_mul]; omega, h4⟩

theorem cell_lt {w : World} {a : Addr} {v : Value} (h : w.cell? a = some v) : a.block < w.heap.size := by
  apply Nat.lt_of_not_le
  intro hle
  unfold World.cell? at h
  rw [Array.getElem?_eq_none hle] at h
  cases h

section
variable {P : Program} {E : Env A} (T : TyOK P E) {H : Type} {enc : TypeId × Value → H} {w : World} {base : Nat} {sp : Nat → Bool} {held : Bool}
include T

theorem trod_RP : ∀ (fuel : Nat) (t : TypeId) (i : TI) (cs : List Value) (z : DataW H × List MemPlace), E.ty.lookup t = some i → i.K.noOpq = true → DataW.trod enc P w base sp held fuel t cs = some z →
    ∃ x : i.K.den, RP (fun b => b < w.heap.size) w i.K x cs ∧ WF i.K x
  | 0, _, _, _, _, _, _, h => by simp [DataW.trod] at h
  | fuel + 1, t, i, cs, z, hi, hq, h => by
    obtain ⟨ds, hu, hd⟩ := T.desc hi
    have hcell := T.cellsOf hi
    obtain ⟨K, td, by', cm⟩ := i
    simp only at hd hq hcell ⊢
    unfold DataW.trod at h
    rw [hu] at h
    cases ds with
    | bool =>
      cases td <;> cases K <;> simp at hd
      simp only at h
      split at h <;> try (cases h; done)
      all_goals first | (rename_i heq; cases heq; done) | skip
      rename_i b heq
      exact ⟨b, rfl, trivial⟩
    | int k =>
      cases td <;> cases K <;> simp at hd
      subst hd
      simp only at h
      split at h <;> try (cases h; done)
      all_goals first | (rename_i heq; cases heq; done) | skip
      rename_i heq
      cases heq
      split at h
      · rename_i hw
        obtain ⟨rfl, hw⟩ := hw
        simp only [Lit.wf, Bool.and_eq_true, decide_eq_true_eq] at hw
        exact ⟨_, rfl, hw⟩
      · cases h
    | string =>
      cases td <;> cases K <;> simp at hd
      simp only at h
      split at h <;> try (cases h; done)
      all_goals first | (rename_i heq; cases heq; done) | skip
      split at h
      · rename_i s heq hw
        exact ⟨s, rfl, hw⟩
      · cases h
    | slice e =>
      cases td <;> cases K <;> simp at hd
      rename_i e' Ke
      obtain ⟨rfl, hd⟩ := hd
      obtain ⟨j, hj, hjK, hpos⟩ : ∃ j, E.ty.lookup e = some j ∧ j.K = Ke ∧ 0 < Ke.size := by
        cases h : E.ty.lookup e with
        | none => rw [h] at hd; simp at hd
        | some j => rw [h] at hd; simp at hd; exact ⟨j, rfl, hd.1.1, hd.1.2⟩
      subst hjK
      simp only at h
      split at h <;> try (cases h; done)
      all_goals first | (rename_i heq; cases heq; done) | skip
      · exact ⟨[], ⟨none, 0, rfl, Nat.le_refl _, fun h => absurd h (Nat.lt_irrefl _)⟩, by simp, fun x hx => by cases hx⟩
      · rename_i a len cap heq
        cases heq
        split at h
        · rename_i hc
          obtain ⟨_, hlc, hcm⟩ := hc
          obtain ⟨elems, he, h⟩ := Option.bind_eq_some_iff.1 h
          rw [T.cellsOf hj] at he
          -- the elements
          let g : Nat → List Value := fun i => ((w.cells? base (a.add (i * j.K.size)) j.K.size).getD [])
          have each : ∀ i ∈ List.range len, ∃ x, (RP (fun b => b < w.heap.size) w j.K x (g i) ∧ WF j.K x) ∧ w.cells? base (a.add (i * j.K.size)) j.K.size = some (g i) := fun i hi => by
            obtain ⟨y, hy⟩ := mapM_some he i hi
            obtain ⟨cs, hcs, hy⟩ := Option.bind_eq_some_iff.1 hy
            have hgi : g i = cs := by simp [g, hcs]
            obtain ⟨x, h1, h2⟩ := trod_RP fuel e j cs y hj hq hy
            exact ⟨x, by rw [hgi]; exact ⟨h1, h2⟩, by rw [hgi]; exact hcs⟩
          obtain ⟨xs, hxs⟩ := all2_choose (R := fun x c => RP (fun b => b < w.heap.size) w j.K x c ∧ WF j.K x) (g := g) fun i hi => by obtain ⟨x, h, _⟩ := each i hi; exact ⟨x, h⟩
          have hlen : xs.length = len := by rw [hxs.length]; simp
          have hrp : All2 (RP (fun b => b < w.heap.size) w j.K) xs ((List.range len).map g) := hxs.imp fun _ _ _ _ h => h.1
          have cell : ∀ i o v, i < len → (g i)[o]? = some v → w.cell? (a.add (i * j.K.size + o)) = some v := fun i o v hi ho => by
            obtain ⟨x, _, hcs⟩ := each i (by simpa using hi)
            unfold World.cells? at hcs
            split at hcs
            · obtain ⟨h1, h2⟩ := mapM_len hcs
              have hol : o < j.K.size := by have := (List.getElem?_eq_some_iff.1 ho).1; rw [h1] at this; simpa using this
              obtain ⟨y, hy, hv⟩ := h2 o o (by simp [hol])
              rw [ho] at hy; cases hy
              rw [add_add] at hv; exact hv
            · cases hcs
          refine ⟨xs, ⟨some a, cap, by rw [hlen], by rw [hlen]; exact hlc, fun hp => ⟨a, (List.range len).map g, rfl, ?_, hrp, fun q v hv => ?_⟩⟩, by rw [hlen]; omega, fun x hx => by obtain ⟨c, _, h⟩ := hxs.left x hx; exact h.2⟩
          · -- a cell of the first
            rw [hlen] at hp
            obtain ⟨x, ⟨h1, _⟩, hcs⟩ := each 0 (by simpa using hp)
            have hl := RP.length h1
            have := cell 0 0 ((g 0)[0]'(by omega)) hp (List.getElem?_eq_getElem _)
            have := cell_lt this
            rwa [add_block] at this
          · obtain ⟨i, c, o, h1, h2, rfl, h4⟩ := flatten_get hrp.lens hv
            rw [List.getElem?_map, Option.map_eq_some_iff] at h1
            obtain ⟨i', h1, rfl⟩ := h1
            have hi := (List.getElem?_eq_some_iff.1 h1).1
            have : i' = i := by rw [List.getElem?_range (by simpa using hi)] at h1; exact (Option.some.inj h1).symm
            subst this
            exact cell i' o v (by simpa using hi) h4
        · cases h
    | array n e =>
      cases td <;> cases K <;> simp at hd
      rename_i n' e' n'' Ke
      obtain ⟨⟨⟨rfl, rfl⟩, rfl⟩, hd⟩ := hd
      obtain ⟨j, hj, hjK⟩ : ∃ j, E.ty.lookup e = some j ∧ j.K = Ke := by
        cases h : E.ty.lookup e with
        | none => rw [h] at hd; simp at hd
        | some j => rw [h] at hd; simp at hd; exact ⟨j, rfl, hd.1⟩
      subst hjK
      simp only at h
      split at h
      · rename_i hl
        rw [hcell] at hl
        obtain ⟨xs, hxs, _⟩ := Option.map_eq_some_iff.1 h
        rw [T.cellsOf hj] at hxs
        obtain ⟨ys, hys⟩ := all2_choose (R := fun x c => RP (fun b => b < w.heap.size) w j.K x c ∧ WF j.K x) (g := fun i => cut cs (i * j.K.size) j.K.size) (is := List.range n) fun i hi => by
          obtain ⟨y, hy⟩ := mapM_some hxs i hi
          exact trod_RP fuel e j _ y hj hq hy
        have hlen : ys.length = n := by rw [hys.length]; simp
        refine ⟨ys, ⟨hlen, _, ?_, hys.imp fun _ _ _ _ h => h.1⟩, hlen, fun x hx => by obtain ⟨c, _, h⟩ := hys.left x hx; exact h.2⟩
        exact chunks n j.K.size cs hl
      · cases h
    | struct fs =>
      cases td with
      | struct ts =>
        have hd : fieldsB E.ty fs.toList ts K 0 = true := hd
        simp only at h
        split at h
        · rename_i hl
          rw [hcell] at hl
          obtain ⟨xs, hxs, _⟩ := Option.map_eq_some_iff.1 h
          have gen : ∀ (fs : List Field) (ts : List TypeId) (K : Kind) (off : Nat), fieldsB E.ty fs ts K off = true → K.noOpq = true → (∀ f ∈ fs, ∃ y, DataW.trod enc P w base sp held fuel f.type ((cs.drop f.offset).take (P.cellsOf f.type)) = some y) →
              ∃ x : K.den, RP (fun b => b < w.heap.size) w K x ((cs.drop off).take K.size) ∧ WF K x := by
            intro fs
            induction fs with
            | nil =>
              intro ts K off hb _ _
              cases ts <;> cases K <;> simp [fieldsB] at hb
              exact ⟨(), by simp [Kind.size, RP], trivial⟩
            | cons f fs ih =>
              intro ts K off hb hq hall
              cases ts with
              | nil => simp [fieldsB] at hb
              | cons t ts =>
                cases K with
                | pair a b =>
                  simp only [fieldsB, Bool.and_eq_true, beq_iff_eq, decide_eq_true_eq] at hb
                  obtain ⟨⟨⟨⟨rfl, hoff⟩, hpos⟩, hl⟩, hb⟩ := hb
                  simp only [Kind.noOpq, Bool.and_eq_true] at hq
                  cases hf : E.ty.lookup f.type with
                  | none => rw [hf] at hl; cases hl
                  | some j =>
                    rw [hf] at hl
                    have hjK : j.K = a := by simpa using hl
                    subst hjK
                    obtain ⟨y, hy⟩ := hall f (by simp)
                    rw [hoff, T.cellsOf hf] at hy
                    obtain ⟨x1, h1, h2⟩ := trod_RP fuel f.type j _ y hf hq.1 hy
                    obtain ⟨x2, h3, h4⟩ := ih ts b (off + j.K.size) hb hq.2 fun f hf => hall f (by simp [hf])
                    refine ⟨(x1, x2), ⟨_, _, ?_, h1, h3⟩, h2, h4⟩
                    rw [Kind.size, List.take_add, List.drop_drop]
                | _ => simp [fieldsB] at hb
          obtain ⟨x, h1, h2⟩ := gen fs.toList ts K 0 hd hq fun f hf => mapM_some hxs f hf
          refine ⟨x, ?_, h2⟩
          rw [List.drop_zero, List.take_of_length_le (by omega)] at h1
          exact h1
        · cases h
      | prim => cases K <;> simp at hd
      | slice _ => cases K <;> simp at hd
      | array _ _ => cases K <;> simp at hd
      | map _ _ => cases K <;> simp at hd
      | ptr _ => cases K <;> simp at hd
      | other => cases K <;> simp at hd
    | map k v => cases td <;> cases K <;> simp at hd; simp [Kind.noOpq] at hq
    | pointer e => cases td <;> cases K <;> simp at hd; simp [Kind.noOpq] at hq
    | _ => cases td <;> cases K <;> simp at hd

open Go.WideShapes in
/-- An argument. -/
theorem arg_sound {r : Reach} {b0 : Nat} {t : TypeId} {i : TI} {v : Value} {d : DataW H} {ps : List MemPlace} (hi : E.ty.lookup t = some i) (hq : i.K.noOpq = true) (hok : Value.okWide P w r b0 t v) (h : DataW.Trod enc P w base sp held t v d ps) :
    ∃ x : i.K.den, RS (X0 (fun b => b < w.heap.size) w) (.p i.K x) v ∧ WF i.K x := by
  obtain ⟨fuel, h⟩ := h
  obtain ⟨x, h1, h2⟩ := trod_RP T fuel t i _ _ hi hq h
  refine ⟨x, RS.of0 ?_ (by simp), h2⟩
  obtain ⟨ds, hu, hd⟩ := T.desc hi
  have leaf : i.K.isAgg = false → v.cells = #[v] → RS0 (X0 (fun b => b < w.heap.size) w) (.p i.K x) v := fun ha hv => by
    rw [hv] at h1
    exact .inr ⟨[v], h1, .inr ⟨ha, rfl⟩⟩
  have agg : i.K.isAgg = true → (∃ cs, v = .agg cs) → RS0 (X0 (fun b => b < w.heap.size) w) (.p i.K x) v := fun ha hv => by
    obtain ⟨cs, rfl⟩ := hv
    exact .inr ⟨cs.toList, h1, .inl ⟨ha, by simp⟩⟩
  obtain ⟨K, td, by', cm⟩ := i
  simp only at hd hq leaf agg ⊢
  cases ds with
  | bool => cases td <;> cases K <;> simp at hd; obtain ⟨b, rfl⟩ := okWide_bool hu hok; exact leaf rfl rfl
  | int k => cases td <;> cases K <;> simp at hd; obtain ⟨b, rfl⟩ := okWide_int hu hok; exact leaf rfl rfl
  | string => cases td <;> cases K <;> simp at hd; obtain ⟨b, rfl⟩ := okWide_string hu hok; exact leaf rfl rfl
  | slice e => cases td <;> cases K <;> simp at hd; obtain ⟨a, l, c, rfl⟩ := okWide_slice hu hok; exact leaf rfl rfl
  | array n e =>
    cases td <;> cases K <;> simp at hd
    unfold Value.okWide at hok
    rw [hu] at hok
    obtain ⟨cs, rfl, _⟩ := hok
    exact agg rfl ⟨cs, rfl⟩
  | struct fs =>
    unfold Value.okWide at hok
    rw [hu] at hok
    obtain ⟨cs, rfl, _⟩ := hok
    cases td with
    | struct ts =>
      have hd : fieldsB E.ty fs.toList ts K 0 = true := hd
      have hag : K.isAgg = true := by
        cases hf : fs.toList <;> cases ts <;> cases K <;> simp [hf, fieldsB] at hd <;> rfl
      exact agg hag ⟨cs, rfl⟩
    | prim => cases K <;> simp at hd
    | slice _ => cases K <;> simp at hd
    | array _ _ => cases K <;> simp at hd
    | map _ _ => cases K <;> simp at hd
    | ptr _ => cases K <;> simp at hd
    | other => cases K <;> simp at hd
  | map k v => cases td <;> cases K <;> simp at hd; simp [Kind.noOpq] at hq
  | pointer e => cases td <;> cases K <;> simp at hd; simp [Kind.noOpq] at hq
  | _ => cases td <;> cases K <;> simp at hd

end
end Go.Ev
end

section
/-
  A LAW's CALL.
-/
namespace Go.Ev
open Go.RowKit (Below)

def kb (r : AV) (_ : List Blk) : Option Bool := match r with | .p .bool b => some b | _ => none

theorem law_calls {P : Program} {E : Env Bool} (T : TyOK P E) (fns : FnsOK P E) (hm : P.follows .mixedOrders = true) {f : FuncId} {fn : Func} (B : P.funcs[f]? = some fn)
    (lo : ∀ c, fn.body = some c → ∀ q ∈ loopsOf 0 c, ∀ L, E.lps.lookup q.1 = some L → LoopOK P E.gl q.2 L) {args : List AV} (h : fnK E fn [.pure] args [] kb = some true) (W : World) (vals : Array Value) (hg : GOK E.gl (X0 (fun b => b < W.heap.size) W))
    (hr : All2 (RS (X0 (fun b => b < W.heap.size) W)) args vals.toList) : Calls P f vals W fun e w' => e = .returned (.bool true) ∧ Below W.heap.size W w' := by
  obtain ⟨r, hp, h1, _, h2⟩ := fnK_calls T fns hm B lo h
  have hrr : r = .p .bool true := by
    unfold kb at h1
    split at h1
    · cases h1; rfl
    · cases h1
  subst hrr
  refine (h2 (X0 (fun b => b < W.heap.size) W) vals rfl ⟨fun id b hb => by simp [X0] at hb, fun id id' b c c' h1 => by simp [X0] at h1, fun b hb => ⟨hb, fun ⟨id, blk, h1, _⟩ => by simp [X0] at h1⟩⟩ hg hr).mono fun e w' ⟨u, he, Y, hY, _, hu, _, V, _⟩ => ?_
  rw [RS.bool] at hu
  subst hu; subst hY
  exact ⟨he, V.os, V.tape, V.output, V.size, fun k hk => V.keep k hk fun ⟨id, blk, h, _⟩ => by simp [X0] at h⟩

end Go.Ev
end

section
/-
  FUNCTIONS THAT ARE THE MODEL's OWN: sums and differences with a carry.
-/
namespace Go.Ev
variable {A : Type}

/-- A call of a function without code. -/
theorem run_callFunc_extern {P : Program} {f : FuncId} {fn : Func} {e : Array Value → Sem Value} (B : P.funcs[f]? = some fn) (hb : fn.body = none) (hn : (fn.name == "runtime.NumGoroutine") = false) (h1 : Extern.findNext fn = none) (h2 : Extern.find fn = some e)
    (args : Array Value) (w : World) {u : Value} (hr : (e args).run P w = .ok u w) : (callFunc f args).run P w = .ok (.value u) w := by
  have hn' : ¬ fn.name = "runtime.NumGoroutine" := by simpa using hn
  simp [callFunc, B, hb, hn', h1, h2, hr]

def sub64Entry : Array Value → Sem Value := fun args => do
  let (x, y, b) ← Extern.MathBitsCarry.three "Sub64" args
  pure (Extern.MathBitsCarry.pair ((x + Extern.MathBitsCarry.m64 - y - b) % Extern.MathBitsCarry.m64) (if x < y + b then 1 else 0))

theorem run_sub64 {P : Program} (x y c : Int) (hx : 0 ≤ x) (hy : 0 ≤ y) (hc0 : 0 ≤ c) (hc : c ≤ 1) (hx2 : x < 18446744073709551616) (hy2 : y < 18446744073709551616) (w : World) :
    (sub64Entry #[.int .u64 x, .int .u64 y, .int .u64 c]).run P w = .ok (.tuple #[.int .u64 ((x - y - c) % 18446744073709551616), .int .u64 (if x < y + c then 1 else 0)]) w := by
  have key : ∀ k : Nat, k ≤ 1 → (sub64Entry #[.int .u64 x, .int .u64 y, .int .u64 (k : Int)]).run P w =
      .ok (Extern.MathBitsCarry.pair ((x.toNat + Extern.MathBitsCarry.m64 - y.toNat - k) % Extern.MathBitsCarry.m64) (if x.toNat < y.toNat + k then 1 else 0)) w := by
    intro k hk
    have : k = 0 ∨ k = 1 := by omega
    rcases this with rfl | rfl <;> rfl
  obtain ⟨k, rfl⟩ := Int.eq_ofNat_of_zero_le hc0
  rw [key k (by omega)]
  obtain ⟨X, rfl⟩ := Int.eq_ofNat_of_zero_le hx
  obtain ⟨Y, rfl⟩ := Int.eq_ofNat_of_zero_le hy
  simp only [Extern.MathBitsCarry.pair, Extern.MathBitsCarry.m64, Int.toNat_natCast]
  have e1 : Int.ofNat ((X + 2 ^ 64 - Y - k) % 2 ^ 64) = ((X : Int) - (Y : Int) - (k : Int)) % 18446744073709551616 := by
    show (((X + 2 ^ 64 - Y - k) % 2 ^ 64 : Nat) : Int) = _
    omega
  have e2 : Int.ofNat (if X < Y + k then 1 else 0) = (if (X : Int) < (Y : Int) + (k : Int) then 1 else 0) := by
    by_cases h : X < Y + k
    · rw [if_pos h, if_pos (by omega)]; rfl
    · rw [if_neg h, if_neg (by omega)]; rfl
  rw [e1, e2]

/-- The entry of a function of three numbers and two results. -/
theorem carry_sem {P : Program} {gl : GL} {f : FuncId} {fn : Func} {e : Array Value → Sem Value} (B : P.funcs[f]? = some fn) (hb : fn.body = none) (hn : (fn.name == "runtime.NumGoroutine") = false) (h1 : Extern.findNext fn = none) (h2 : Extern.find fn = some e)
    {x y c r s : Int} (hr : ∀ w, (e #[.int .u64 x, .int .u64 y, .int .u64 c]).run P w = .ok (.tuple #[.int .u64 r, .int .u64 s]) w) :
    FnSem P gl f [.p (.int .u64) x, .p (.int .u64) y, .p (.int .u64) c] [] (.tup [.p (.int .u64) r, .p (.int .u64) s]) [] := by
  intro X vals hX ok _ hargs
  obtain ⟨vl⟩ := vals
  match vl, hargs with
  | [v0, v1, v2], .cons a0 (.cons a1 (.cons a2 .nil)) =>
    rw [RS.int] at a0 a1 a2
    subst a0; subst a1; subst a2
    exact ⟨_, X.w, run_callFunc_extern B hb hn h1 h2 _ X.w (hr X.w), .inl ⟨_, rfl, X, rfl, hX, ⟨#[.int .u64 r, .int .u64 s], rfl, .cons (.inr ⟨_, rfl, .inr ⟨rfl, rfl⟩⟩) (.cons (.inr ⟨_, rfl, .inr ⟨rfl, rfl⟩⟩) .nil)⟩, ok, .refl X, .refl _ X⟩⟩

theorem carry_ok {P : Program} {gl : GL} {f : FuncId} {fn : Func} {e : Array Value → Sem Value} {h : Int → Int → Int → Int × Int} (B : P.funcs[f]? = some fn) (hb : fn.body = none) (hn : (fn.name == "runtime.NumGoroutine") = false) (h1 : Extern.findNext fn = none) (h2 : Extern.find fn = some e)
    (hr : ∀ (x y c : Int), 0 ≤ x → 0 ≤ y → 0 ≤ c → c ≤ 1 → ∀ (P : Program) (w : World), (e #[.int .u64 x, .int .u64 y, .int .u64 c]).run P w = .ok (.tuple #[.int .u64 (h x y c).1, .int .u64 (h x y c).2]) w)
    {g : List AV → (AV → List Blk → Option A) → Option A}
    (hg : ∀ args k out, g args k = some out → ∃ x y c, args = [.p (.int .u64) x, .p (.int .u64) y, .p (.int .u64) c] ∧
      (if 0 ≤ x then if 0 ≤ y then if 0 ≤ c then if c ≤ 1 then k (.tup [.p (.int .u64) (h x y c).1, .p (.int .u64) (h x y c).2]) [] else none else none else none else none) = some out) : FnOK P gl f (pureE g) := fun args hp0 k out hh => by
  cases hp0 with
  | cons b r => cases hh
  | nil =>
    obtain ⟨x, y, c, rfl, hk⟩ := hg args k out hh
    split at hk
    · rename_i g1
      split at hk
      · rename_i g2
        split at hk
        · rename_i g3
          split at hk
          · rename_i g4
            exact ⟨_, _, hk, carry_sem B hb hn h1 h2 fun w => hr x y c g1 g2 g3 g4 P w⟩
          · cases hk
        · cases hk
      · cases hk
    · cases hk

theorem borrow_ok {P : Program} {gl : GL} {f : FuncId} {fn : Func} {e : Array Value → Sem Value} {h : Int → Int → Int → Int × Int} (B : P.funcs[f]? = some fn) (hb : fn.body = none) (hn : (fn.name == "runtime.NumGoroutine") = false) (h1 : Extern.findNext fn = none) (h2 : Extern.find fn = some e)
    (hr : ∀ (x y c : Int), 0 ≤ x → 0 ≤ y → 0 ≤ c → c ≤ 1 → x < 18446744073709551616 → y < 18446744073709551616 → ∀ (P : Program) (w : World), (e #[.int .u64 x, .int .u64 y, .int .u64 c]).run P w = .ok (.tuple #[.int .u64 (h x y c).1, .int .u64 (h x y c).2]) w)
    {g : List AV → (AV → List Blk → Option A) → Option A}
    (hg : ∀ args k out, g args k = some out → ∃ x y c, args = [.p (.int .u64) x, .p (.int .u64) y, .p (.int .u64) c] ∧
      (if 0 ≤ x then if 0 ≤ y then if 0 ≤ c then if c ≤ 1 then if x < 18446744073709551616 then if y < 18446744073709551616 then k (.tup [.p (.int .u64) (h x y c).1, .p (.int .u64) (h x y c).2]) [] else none else none else none else none else none else none) = some out) : FnOK P gl f (pureE g) := fun args hp0 k out hh => by
  cases hp0 with
  | cons b r => cases hh
  | nil =>
    obtain ⟨x, y, c, rfl, hk⟩ := hg args k out hh
    split at hk
    · rename_i g1
      split at hk
      · rename_i g2
        split at hk
        · rename_i g3
          split at hk
          · rename_i g4
            split at hk
            · rename_i g5
              split at hk
              · rename_i g6
                exact ⟨_, _, hk, carry_sem B hb hn h1 h2 fun w => hr x y c g1 g2 g3 g4 g5 g6 P w⟩
              · cases hk
            · cases hk
          · cases hk
        · cases hk
      · cases hk
    · cases hk

theorem fnK_body {E : Env A} {fn : Func} {rm : List RMode} {args : List AV} {hp : List Blk} {k : AV → List Blk → Option A} {c : Code} (hb : fn.body = some c) :
    fnK E fn rm args hp k = codeK E 0 c { tm := args ++ List.replicate (fn.ntmps - args.length) .any, hp := hp, m := hp.length } (endK E fn rm k) := by
  unfold fnK
  rw [hb]

/-- A run of code, cut behind its first part. -/
theorem codeK_cut {E : Env A} {j : Nat} {a b : Code} {S S1 : St} {G : Option A → Option A} (h : ∀ K : Ex → St → Option A, codeK E j a S K = G (K .normal S1)) (K : Ex → St → Option A) :
    codeK E j (.seq a b) S K = G (codeK E (j + loops a) b S1 K) := by
  simp only [codeK]
  rw [h]
  rfl

end Go.Ev
end

section
/-
  A LISTED PACKAGE VARIABLE that holds an array of integers: what the reading says of its cells.
-/
set_option linter.all false
namespace Go.Ev
open Go.ChangeShapes

theorem laid_cells {H : Type} {P : Program} {w : World} {enc : TypeId × Value → H} {sp : Nat → Bool} {held : Bool} {base : Nat} {t e len fuel : Nat} {k : IntKind} {L : List Value} {l : List Int} {p : List MemPlace}
    (hu : P.underlying t = some (.array len e)) (he : P.underlying e = some (.int k)) (hc : P.cellsOf e = 1) (hct : P.cellsOf t = len) (hl : l.length = len)
    (hd : DataW.trod enc P w base sp held fuel t L = some (.agg (l.map fun x => .lit (.int k x)), p)) : L = l.map fun x => Value.int k x := by
  obtain ⟨xs, m, rfl, hx, hlen, hn, hel⟩ := DataW.trod_array hu hd
  simp only [Prod.mk.injEq, DataW.agg.injEq] at hx
  have hxs := hx.1
  apply List.ext_getElem?
  intro i
  by_cases hi : i < len
  · have h1 := hel i hi
    rw [hc, Nat.mul_one, List.getElem?_eq_getElem (by omega)] at h1
    obtain ⟨n, e1, e2, _⟩ := DataW.trod_int he h1
    have h3 : (L.drop i).take 1 = [L[i]'(by omega)] := by
      rw [List.drop_eq_getElem_cons (by omega), List.take_succ_cons, List.take_zero]
    rw [h3] at e1
    have h4 : (xs.map (·.1))[i]? = some (xs[i]'(by omega)).1 := by rw [List.getElem?_map, List.getElem?_eq_getElem (by omega)]; rfl
    rw [← hxs, e2, List.getElem?_map, List.getElem?_eq_getElem (show i < l.length by omega)] at h4
    have h5 : l[i]'(by omega) = n := by simpa using h4
    rw [List.getElem?_eq_getElem (by omega), List.getElem?_map, List.getElem?_eq_getElem (show i < l.length by omega), h5]
    have h6 : L[i]'(by omega) = Value.int k n := by simpa using e1
    rw [h6]; rfl
  · rw [List.getElem?_eq_none (by omega), List.getElem?_eq_none (by rw [List.length_map]; omega)]

theorem laid_RS {P : Program} {w : World} {name : String} {g t e len fuel : Nat} {k : IntKind} {cs : Array Value} {l : List Int} {p : List MemPlace}
    (hu : P.underlying t = some (.array len e)) (he : P.underlying e = some (.int k)) (hc : P.cellsOf e = 1) (hct : P.cellsOf t = len) (hl : l.length = len)
    (hg : P.globalNamed name = some g) (hv : w.var? P name = some cs)
    (hd : DataW.trod (fun _ => ()) P w 0 (fun _ => true) false fuel t cs.toList = some (.agg (l.map fun x => .lit (.int k x)), p)) :
    RS (X0 (fun b => b < w.heap.size) w) (.vp (.arr len (.int k)) l) (.pointer (some ⟨g, 0, none⟩)) := by
  have hL := laid_cells hu he hc hct hl hd
  have hsz : g < w.heap.size := by
    have h := hv
    simp only [World.var?, hg, Option.bind_some] at h
    rcases Nat.lt_or_ge g w.heap.size with h2 | h2
    · exact h2
    · rw [Array.getElem?_eq_none h2] at h; cases h
  refine .inr ⟨_, ⟨_, rfl, ⟨g, 0, none⟩, cs.toList, rfl, hsz, ⟨hl, cs.toList.map fun c => [c], ?_, ?_⟩, fun j u hj => ?_⟩, ?_⟩
  · generalize cs.toList = q
    induction q with
    | nil => rfl
    | cons a r ih => rw [List.map_cons, List.flatten_cons, ← ih]; rfl
  · rw [hL]
    clear hL hd hv hl
    induction l with
    | nil => exact .nil
    | cons x r ih => exact .cons rfl ih
  · have := World.var?_cell hg hv j
    show w.cell? (Addr.add ⟨g, 0, none⟩ j) = some u
    rw [show (Addr.add ⟨g, 0, none⟩ j) = ⟨g, j, none⟩ from by
      unfold Addr.add
      split
      · rename_i h; rw [h]
      · rw [Nat.zero_add]]
    rw [this]
    simpa using hj
  · exact .inr ⟨rfl, rfl⟩

end Go.Ev
end

