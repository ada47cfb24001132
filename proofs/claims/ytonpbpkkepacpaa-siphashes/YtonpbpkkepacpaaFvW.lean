/-
  REGIONS: both kinds.
-/
import Derived.Test.YtonpbpkkepacpaaFvV
set_option linter.all false
namespace Go.Ev
variable {A : Type}

theorem filter_lt {α : Type} {p q : α → Bool} : ∀ {l : List α}, (∀ x ∈ l, q x = true → p x = true) → ∀ x0 ∈ l, p x0 = true → q x0 = false → (l.filter q).length < (l.filter p).length
  | [], _, _, h, _, _ => by cases h
  | x :: l, h, x0, h0, hp, hq => by
    have le : (l.filter q).length ≤ (l.filter p).length := by
      have : ∀ l : List α, (∀ x ∈ l, q x = true → p x = true) → (l.filter q).length ≤ (l.filter p).length := fun l => by
        induction l with
        | nil => intro _; simp
        | cons y l ih =>
          intro h
          have ih := ih fun x hx => h x (by simp [hx])
          rw [List.filter_cons, List.filter_cons]
          cases hq : q y with
          | true => rw [h y (by simp) hq]; simpa using ih
          | false => cases p y <;> simp <;> omega
      exact this l fun x hx => h x (by simp [hx])
    rw [List.filter_cons, List.filter_cons]
    rcases List.mem_cons.1 h0 with rfl | h0
    · rw [hp, hq]; simp; omega
    · have ih := filter_lt (fun x hx => h x (by simp [hx])) x0 h0 hp hq
      cases hqx : q x with
      | true => rw [h x (by simp) hqx]; simpa using ih
      | false => cases p x <;> simp <;> omega

theorem app_same {S S' : Nat → Bool} : ∀ (ps : List Stp) (i : Nat) (s : St), (∀ k, k < ps.length → S (i + k) = S' (i + k)) → app S i ps s = app S' i ps s
  | [], _, _, _ => rfl
  | p :: ps, i, s, h => by
    simp only [app]
    have h0 := h 0 (by simp)
    simp only [Nat.add_zero] at h0
    rw [h0]
    exact app_same ps (i + 1) _ fun k hk => by have := h (k + 1) (by simpa using hk); rw [show i + 1 + k = i + (k + 1) by omega]; exact this

theorem ready_mem {ops : Array Oper} {listed : Array Bool} {i : Nat} : i ∈ Region.ready .any ops listed ↔ i < ops.size ∧ listed.getD i true = false ∧ ∃ o, ops[i]? = some o ∧ ∀ e ∈ o.after.toList, Region.binds .any e = true → listed.getD e.on false = true := by
  unfold Region.ready
  simp only [List.mem_filter, List.mem_range, Bool.and_eq_true, Bool.not_eq_true']
  constructor
  · rintro ⟨h1, h2, h3⟩
    refine ⟨h1, h2, ?_⟩
    obtain ⟨o, ho⟩ : ∃ o, ops[i]? = some o := ⟨ops[i], Array.getElem?_eq_getElem h1⟩
    refine ⟨o, ho, fun e he hb => ?_⟩
    rw [ho] at h3
    simp only [Option.map_some, Option.getD_some, Array.all_eq_true_iff_forall_mem, Bool.or_eq_true, Bool.not_eq_true'] at h3
    rcases h3 e (Array.mem_toList_iff.1 he) with h | h
    · rw [hb] at h; cases h
    · exact h
  · rintro ⟨h1, h2, o, ho, h3⟩
    refine ⟨h1, h2, ?_⟩
    rw [ho]
    simp only [Option.map_some, Option.getD_some, Array.all_eq_true_iff_forall_mem, Bool.or_eq_true, Bool.not_eq_true']
    intro e he
    cases hb : Region.binds .any e with
    | false => exact .inl rfl
    | true => exact .inr (h3 e (Array.mem_toList_iff.2 he) hb)

theorem hget_of {hp : List Blk} {id : Nat} {b : Blk} (h : hp[id]? = some b) : hget hp id = b := by simp [hget, h]
theorem hget_some {hp : List Blk} {id : Nat} {b : Blk} (h : hget hp id = b) (hn : b ≠ .free) : hp[id]? = some b := by
  unfold hget at h
  cases hh : hp[id]? with
  | none => rw [hh] at h; simp at h; exact absurd h.symm hn
  | some c => rw [hh] at h; simp at h; rw [h]

theorem chain_any {P : Program} {gl : GL} {ops : Array Oper} {Q : Exit → Act → World → Prop} {s s' : St} {ps : List Stp} (hc : Chain P gl ops ops.toList s ps s') (I : Indep ops ps) :
    ∀ (fuel : Nat) (listed : Array Bool) (X : Cx) (a : Act), listed.size = ops.size →
    (∀ (j : Nat) (o : Oper), ops.toList[j]? = some o → listed.getD j true = true → ∀ e ∈ o.held, listed.getD e.on true = true) →
    ((List.range ops.size).filter fun i => !listed.getD i true).length ≤ fuel → Rel gl X (app (fun i => listed.getD i true) 0 ps s) a →
    (∀ (Y : Cx) (a' : Act), Rel gl Y s' a' → WEvo X Y → HEvo X Y → Q .normal a' Y.w) → wpAny P .any ops Q fuel listed a X.w := by
  have hlen : ps.length = ops.size := by rw [chain_len hc]; simp
  have done : ∀ (listed : Array Bool), ((List.range ops.size).filter fun i => !listed.getD i true) = [] → app (fun i => listed.getD i true) 0 ps s = s' := fun listed h => by
    rw [← app_all hc 0]
    refine app_same ps 0 s fun k hk => ?_
    rw [Nat.zero_add]
    by_cases hlt : k < ops.size
    · have : k ∉ (List.range ops.size).filter fun i => !listed.getD i true := by rw [h]; simp
      simp only [List.mem_filter, List.mem_range, hlt, true_and, Bool.not_eq_true', Bool.not_eq_false] at this
      exact this
    · omega
  have noReady : ∀ (listed : Array Bool), listed.size = ops.size → Region.ready .any ops listed = [] → ((List.range ops.size).filter fun i => !listed.getD i true) = [] := fun listed hsz hr => by
    have all : ∀ j, j < ops.size → listed.getD j true = true := by
      intro j
      induction j using Nat.strongRecOn with
      | _ j ih =>
        intro hj
        cases hl : listed.getD j true with
        | true => rfl
        | false =>
          obtain ⟨o, ho⟩ : ∃ o, ops[j]? = some o := ⟨ops[j], Array.getElem?_eq_getElem hj⟩
          have : j ∈ Region.ready .any ops listed := ready_mem.2 ⟨hj, hl, o, ho, fun e he hb => by
            have hlt := I.before j o (by rw [Array.getElem?_toList]; exact ho) e (List.mem_filter.2 ⟨he, hb⟩)
            have := ih e.on hlt (by omega)
            have he' : e.on < listed.size := by omega
            simp only [Array.getD, he', dif_pos] at this ⊢
            exact this⟩
          rw [hr] at this; cases this
    rw [List.filter_eq_nil_iff]
    intro j hj
    simp [all j (by simpa using hj)]
  intro fuel
  induction fuel with
  | zero =>
    intro listed X a hsz hcl hf hr hq
    have h0 := List.eq_nil_of_length_eq_zero (Nat.le_zero.1 hf)
    refine ⟨?_, ?_⟩
    · cases hrd : Region.ready .any ops listed with
      | nil => rfl
      | cons i is =>
        have hi : i ∈ Region.ready .any ops listed := by rw [hrd]; simp
        obtain ⟨h1, h2, _⟩ := ready_mem.1 hi
        have : i ∈ (List.range ops.size).filter fun i => !listed.getD i true := by
          rw [List.mem_filter]; exact ⟨by simpa using h1, by rw [h2]; rfl⟩
        rw [h0] at this; cases this
    · rw [done listed h0] at hr
      exact hq X a hr (.refl X) (.refl X)
  | succ fuel ih =>
    intro listed X a hsz hcl hf hr hq
    refine ⟨fun hrd => ?_, fun j hj => ?_⟩
    · rw [done listed (noReady listed hsz hrd)] at hr
      exact hq X a hr (.refl X) (.refl X)
    · obtain ⟨hlt, hSj, o, ho, haft⟩ := ready_mem.1 hj
      have hot : ops.toList[j]? = some o := by rw [Array.getElem?_toList]; exact ho
      obtain ⟨p, hp⟩ : ∃ p, ps[j]? = some p := ⟨ps[j]'(by omega), List.getElem?_eq_getElem _⟩
      obtain ⟨g1, g2, g3, g4⟩ := chain_at hc 0 j p hp
      rw [hot] at g1
      simp only [Option.some.injEq] at g1
      subst g1
      rw [Nat.zero_add] at g2
      have haft' : ∀ e ∈ p.o.held, listed.getD e.on true = true := fun e he => by
        have h1 := I.before j p.o hot e he
        have h2 := haft e (List.mem_filter.1 he).1 (List.mem_filter.1 he).2
        have he' : e.on < listed.size := by omega
        simp only [Array.getD, he', dif_pos] at h2 ⊢
        exact h2
      have hops : ∀ (k : Nat) (p : Stp), ps[k]? = some p → ops.toList[k]? = some p.o := fun k p hk => (chain_at hc 0 k p hk).1
      have FR := fresh_of I hops (S := fun i => listed.getD i true) hcl hp hSj haft'
      generalize hcur : app (fun i => listed.getD i true) 0 ps s = cur at hr
      -- the slots that it looks at
      have tmEq : ∀ t, t ∈ p.o.looksAt ops → cur.tm[t]? = p.s.tm[t]? := fun t ht => by
        rw [← hcur, g2]
        exact app_tm ps 0 s s (fun k pk hk hd => by rw [Nat.zero_add]; exact FR.looks k pk t hk hd ht) rfl
      have hpEq : ∀ id, id ∈ p.fp.r ++ p.fp.w → hget cur.hp id = hget p.s.hp id := fun id hid => by
        rw [← hcur]
        conv => rhs; rw [g2]
        exact app_hp ps 0 s s (fun k pk hk hd => by rw [Nat.zero_add]; exact FR.blocks k pk id hk hd hid) rfl
      have evEq : ∀ x ∈ p.o.op.operands, St.ev gl cur x = St.ev gl p.s x := fun x hx => by
        cases x with
        | tmp t =>
          have : t ∈ p.o.looksAt ops := by
            simp only [Oper.looksAt, List.mem_append, List.mem_filterMap]
            exact .inl ⟨.tmp t, Array.mem_toList_iff.2 hx, rfl⟩
          simp only [St.ev, List.getD_eq_getElem?_getD, tmEq t this]
        | _ => rfl
      have guard : GuardOK ops p.o cur p.on := by
        unfold GuardOK at g3 ⊢
        cases hg : p.o.guard with
        | none => rw [hg] at g3; exact g3
        | some q =>
          obtain ⟨gj, want⟩ := q
          rw [hg] at g3
          obtain ⟨g, h1, h2⟩ := g3
          refine ⟨g, h1, ?_⟩
          rw [tmEq g]
          · exact h2
          · simp only [Oper.looksAt, hg, h1, List.mem_append]
            exact .inr (by simp)
      -- behind it
      have next : app (fun i => (listed.setIfInBounds j true).getD i true) 0 ps s = p.act cur := by
        rw [← hcur]
        refine app_add ps 0 j s p hp (by rw [Nat.zero_add]; exact hSj) ?_ (fun k hk => ?_) fun k pk hk hjk hS => ?_
        · rw [Nat.zero_add]
          simp [Array.getD, hsz, hlt]
        · rw [Nat.zero_add] at hk
          by_cases hkl : k < listed.size
          · simp [Array.getD, hkl, Ne.symm hk]
          · simp [Array.getD, hkl]
        · rw [Nat.zero_add] at hS
          exact FR.later k pk hk hjk hS
      have count : ((List.range ops.size).filter fun i => !(listed.setIfInBounds j true).getD i true).length ≤ fuel := by
        have := filter_lt (l := List.range ops.size) (p := fun i => !listed.getD i true) (q := fun i => !(listed.setIfInBounds j true).getD i true) (fun x hx hq => by
          have hx : x < listed.size := by rw [hsz]; simpa using hx
          by_cases hxj : j = x
          · subst hxj; simp only [hSj]; rfl
          · simpa [Array.getD, hx, hxj] using hq) j (by simpa using hlt) (by rw [hSj]; rfl) (by simp [Array.getD, hsz, hlt])
        omega
      have closed : ∀ (k : Nat) (o : Oper), ops.toList[k]? = some o → (listed.setIfInBounds j true).getD k true = true → ∀ e ∈ o.held, (listed.setIfInBounds j true).getD e.on true = true := fun k o' hk hl e he => by
        have mono : ∀ i, listed.getD i true = true → (listed.setIfInBounds j true).getD i true = true := fun i hi => by
          by_cases hil : i < listed.size
          · by_cases hij : j = i
            · subst hij; simp [Array.getD, hil]
            · simpa [Array.getD, hil, hij] using hi
          · simp [Array.getD, hil]
        refine mono _ ?_
        by_cases hkj : k = j
        · subst hkj; rw [hot] at hk; cases hk; exact haft' e he
        · refine hcl k o' hk ?_ e he
          by_cases hkl : k < listed.size
          · simpa [Array.getD, hkl, Ne.symm hkj] using hl
          · simp [Array.getD, hkl]
      unfold wpOp
      rw [ho]
      simp only
      rw [guard.wanted hr]
      cases hon : p.on with
      | false =>
        simp only [Bool.false_eq_true, if_false]
        refine ih _ X _ (by simpa using hsz) closed count ?_ hq
        rw [next, act_eq, hon]
        have := hr.put (d := p.o.dst) RS.undef
        cases hd : p.o.dst <;> rw [hd] at this <;> exact this
      | true =>
        simp only [if_true]
        left
        have fpr : p.fp.r = (p.s.sub p.o).map (·.1) := by simp [Stp.fp, hon]
        have fpw : p.fp.w = p.l.map (·.1) := by simp [Stp.fp, hon]
        refine (g4 hon).2 X a _ Q ⟨fun x hx => by rw [← evEq x hx]; exact hr.ev x, hr.ok, hr.glo, fun id b hb => ?_⟩ (fun q hq hge => ?_) fun Y u hpY hu ok W H => ?_
        · have hmem : id ∈ p.fp.r := by
            rw [fpr, List.mem_map]
            obtain ⟨l1, l2, h1, _⟩ := List.lookup_eq_some_iff.1 hb
            exact ⟨(id, b), by rw [h1]; simp, rfl⟩
          have := hpEq id (List.mem_append.2 (.inl hmem))
          rw [hget_of (St.sub_get hb)] at this
          rw [hr.hp]
          exact hget_some this (St.sub_free hb)
        · have hmem : q.1 ∈ p.fp.w := by rw [fpw, List.mem_map]; exact ⟨q, hq, rfl⟩
          have := hpEq q.1 (List.mem_append.2 (.inr hmem))
          have hn : hget p.s.hp q.1 = .free := by simp [hget, List.getElem?_eq_none hge]
          rw [hn] at this
          unfold Cx.unused
          rw [hr.hp]
          unfold hget at this
          cases hh : cur.hp[q.1]? with
          | none => exact .inl rfl
          | some c => rw [hh] at this; simp at this; rw [this]; exact .inr rfl
        · have h6 := (hr.step hpY ok W H).put (d := p.o.dst) hu
          refine ih _ Y _ (by simpa using hsz) closed count ?_ fun Z a' hz WZ HZ => hq Z a' hz (W.trans WZ) (H.trans HZ)
          rw [next, act_eq, hon]
          cases hd : p.o.dst <;> rw [hd] at h6 <;> exact h6

end Go.Ev
