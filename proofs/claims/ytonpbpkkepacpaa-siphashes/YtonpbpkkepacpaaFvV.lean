/-
  REGIONS WHOSE ORDER IS DRAWN, MORE: every order comes to the state of the text's order.
-/
import Derived.Test.YtonpbpkkepacpaaFvU
set_option linter.all false
namespace Go.Ev
variable {A : Type}

-- ------------------------------------------------------------ who waits for whom

def waitOne (acc : List (List Nat)) (o : Oper) : List Nat :=
  o.held.foldl (fun l e => if l.contains e.on then l else l ++ e.on :: ((acc.getD e.on []).filter fun x => !l.contains x)) []

theorem waitOne_mem {acc : List (List Nat)} {o : Oper} {i : Nat} (h : i ∈ waitOne acc o) : ∃ e ∈ o.held, i = e.on ∨ i ∈ acc.getD e.on [] := by
  have key : ∀ (es : List Edge) (l : List Nat), i ∈ es.foldl (fun l e => if l.contains e.on then l else l ++ e.on :: ((acc.getD e.on []).filter fun x => !l.contains x)) l → i ∈ l ∨ ∃ e ∈ es, i = e.on ∨ i ∈ acc.getD e.on [] := by
    intro es
    induction es with
    | nil => intro l h; exact .inl h
    | cons e es ih =>
      intro l h
      rcases ih _ h with h | ⟨e', he', h⟩
      · simp only at h
        split at h
        · exact .inl h
        · rcases List.mem_append.1 h with h | h
          · exact .inl h
          · rcases List.mem_cons.1 h with h | h
            · exact .inr ⟨e, by simp, .inl h⟩
            · exact .inr ⟨e, by simp, .inr (List.mem_filter.1 h).1⟩
      · exact .inr ⟨e', by simp [he'], h⟩
  rcases key _ _ h with h | h
  · cases h
  · exact h

theorem waits_get : ∀ (os : List Oper) (acc : List (List Nat)), ∃ tl, os.foldl (fun acc o => acc ++ [waitOne acc o]) acc = acc ++ tl ∧ ∀ j o, os[j]? = some o → (acc ++ tl)[acc.length + j]? = some (waitOne ((acc ++ tl).take (acc.length + j)) o)
  | [], acc => ⟨[], by simp, by simp⟩
  | o :: os, acc => by
    obtain ⟨tl, h1, h2⟩ := waits_get os (acc ++ [waitOne acc o])
    refine ⟨waitOne acc o :: tl, by rw [List.foldl_cons, h1]; simp, fun j o' hj => ?_⟩
    cases j with
    | zero =>
      simp at hj; subst hj
      simp
    | succ j =>
      simp at hj
      have := h2 j o' hj
      simp only [List.append_assoc, List.cons_append, List.nil_append, List.length_append, List.length_cons, List.length_nil, Nat.zero_add] at this
      rw [show acc.length + (j + 1) = acc.length + 1 + j by omega]
      exact this

theorem waitsFor_mem {os : List Oper} {i j : Nat} {o : Oper} (hj : os[j]? = some o) (h : i ∈ (waitsFor os).getD j []) : ∃ e ∈ o.held, i = e.on ∨ i ∈ (waitsFor os).getD e.on [] := by
  obtain ⟨tl, h1, h2⟩ := waits_get os []
  have hW : waitsFor os = tl := by simpa [waitsFor, waitOne] using h1
  have h3 := h2 j o hj
  simp only [List.nil_append, List.length_nil, Nat.zero_add] at h3
  rw [hW] at h ⊢
  rw [List.getD_eq_getElem?_getD, h3] at h
  obtain ⟨e, he, h⟩ := waitOne_mem h
  refine ⟨e, he, h.imp id fun h => ?_⟩
  rw [List.getD_eq_getElem?_getD, List.getElem?_take] at h
  split at h
  · rw [List.getD_eq_getElem?_getD]; exact h
  · simp at h

theorem closed_waits {os : List Oper} {S : Nat → Bool} (hb : ∀ (j : Nat) (o : Oper), os[j]? = some o → ∀ e ∈ o.held, e.on < j) (hc : ∀ (j : Nat) (o : Oper), os[j]? = some o → S j = true → ∀ e ∈ o.held, S e.on = true) :
    ∀ (j : Nat), S j = true → ∀ i ∈ (waitsFor os).getD j [], S i = true := by
  intro j
  induction j using Nat.strongRecOn with
  | _ j ih =>
    intro hj i hi
    cases ho : os[j]? with
    | none =>
      obtain ⟨tl, h1, h2⟩ := waits_get os []
      have hW : waitsFor os = tl := by simpa [waitsFor, waitOne] using h1
      have hlen : tl.length = os.length := by
        have : ∀ (os : List Oper) (acc : List (List Nat)), (os.foldl (fun acc o => acc ++ [waitOne acc o]) acc).length = acc.length + os.length := fun os => by
          induction os with
          | nil => intro acc; rfl
          | cons o os ih => intro acc; rw [List.foldl_cons, ih]; simp; omega
        have := this os []
        rw [h1] at this; simpa using this
      rw [hW, List.getD_eq_getElem?_getD, List.getElem?_eq_none (by rw [hlen]; exact List.getElem?_eq_none_iff.1 ho)] at hi
      simp at hi
    | some o =>
      obtain ⟨e, he, h⟩ := waitsFor_mem ho hi
      have hS := hc j o ho hj e he
      rcases h with rfl | h
      · exact hS
      · exact ih e.on (hb j o ho e he) hS i h

theorem disjointB_spec {a b : List Nat} (h : disjointB a b = true) : ∀ x ∈ a, x ∉ b := fun x hx hb => by
  simp only [disjointB, List.all_eq_true, Bool.not_eq_true'] at h
  have := h x hx
  simp [hb] at this

structure Indep (ops : Array Oper) (ps : List Stp) : Prop where
  before : ∀ (j : Nat) (o : Oper), ops.toList[j]? = some o → ∀ e ∈ o.held, e.on < j
  pair : ∀ i j oi oj pi pj, i < j → ops.toList[i]? = some oi → ops.toList[j]? = some oj → ps[i]? = some pi → ps[j]? = some pj → i ∈ (waitsFor ops.toList).getD j [] ∨
    (oi.apart ops oj = true ∧ (∀ x ∈ pi.fp.w, x ∉ pj.fp.r ++ pj.fp.w) ∧ ∀ x ∈ pj.fp.w, x ∉ pi.fp.r)

theorem indepB_spec {ops : Array Oper} {ps : List Stp} (h : indepB ops (ps.map Stp.fp) = true) (hl : ps.length = ops.size) : Indep ops ps := by
  simp only [indepB, Bool.and_eq_true, List.all_eq_true, List.mem_range] at h
  obtain ⟨_, h⟩ := h
  have base : ∀ j o p, ops.toList[j]? = some o → ps[j]? = some p → (∀ e ∈ o.held, e.on < j) ∧ ∀ i, i < j → (((waitsFor ops.toList).getD j []).contains i || match ops[i]?, (ps.map Stp.fp)[i]? with
        | some oi, some fi => oi.apart ops o && disjointB fi.w (p.fp.r ++ p.fp.w) && disjointB p.fp.w fi.r
        | _, _ => false) = true := fun j o p hj hp => by
    have hlt : j < ops.size := by have := (List.getElem?_eq_some_iff.1 hj).1; simpa using this
    have := h j hlt
    have e1 : ops[j]? = some o := by rw [← Array.getElem?_toList]; exact hj
    have e2 : (ps.map Stp.fp)[j]? = some p.fp := by rw [List.getElem?_map, hp]; rfl
    rw [e1, e2] at this
    simp only [Bool.and_eq_true, List.all_eq_true, List.mem_range, decide_eq_true_eq] at this
    exact this
  refine ⟨fun j o hj e he => ?_, fun i j oi oj pi pj hij hi hj hpi hpj => ?_⟩
  · obtain ⟨p, hp⟩ : ∃ p, ps[j]? = some p := by
      have hlt : j < ps.length := by rw [hl]; have := (List.getElem?_eq_some_iff.1 hj).1; simpa using this
      exact ⟨ps[j], List.getElem?_eq_getElem hlt⟩
    exact (base j o p hj hp).1 e he
  · have := (base j oj pj hj hpj).2 i hij
    have e1 : ops[i]? = some oi := by rw [← Array.getElem?_toList]; exact hi
    have e2 : (ps.map Stp.fp)[i]? = some pi.fp := by rw [List.getElem?_map, hpi]; rfl
    rw [e1, e2] at this
    simp only [Bool.or_eq_true, Bool.and_eq_true] at this
    rcases this with h1 | h1
    · exact .inl (by simpa using h1)
    · exact .inr ⟨h1.1.1, disjointB_spec h1.1.2, disjointB_spec h1.2⟩

theorem fp_w (p : Stp) : p.fp.w = p.wids := by unfold Stp.fp Stp.wids; cases p.on <;> rfl

/-- The operations behind 'S', and one that is ready: who writes what it looks at. -/
structure Fresh (ops : Array Oper) (ps : List Stp) (S : Nat → Bool) (j : Nat) (pj : Stp) : Prop where
  looks : ∀ k pk t, ps[k]? = some pk → pk.o.dst = some t → t ∈ pj.o.looksAt ops → S k = decide (k < j)
  blocks : ∀ k pk x, ps[k]? = some pk → x ∈ pk.wids → x ∈ pj.fp.r ++ pj.fp.w → S k = decide (k < j)
  later : ∀ k pk, ps[k]? = some pk → j < k → S k = true → (∀ d, pk.o.dst = some d → pj.o.dst ≠ some d) ∧ ∀ x ∈ pk.wids, x ∉ pj.wids

theorem fresh_of {ops : Array Oper} {ps : List Stp} (I : Indep ops ps) (hops : ∀ (k : Nat) (p : Stp), ps[k]? = some p → ops.toList[k]? = some p.o) {S : Nat → Bool}
    (hc : ∀ (j : Nat) (o : Oper), ops.toList[j]? = some o → S j = true → ∀ e ∈ o.held, S e.on = true) {j : Nat} {pj : Stp} (hj : ps[j]? = some pj) (hS : S j = false) (hr : ∀ e ∈ pj.o.held, S e.on = true) : Fresh ops ps S j pj := by
  have hcl := closed_waits (fun j o hj e he => I.before j o hj e he) hc
  have waitsIn : ∀ k, k ∈ (waitsFor ops.toList).getD j [] → S k = true := fun k hk => by
    obtain ⟨e, he, h⟩ := waitsFor_mem (hops j pj hj) hk
    rcases h with rfl | h
    · exact hr e he
    · exact hcl e.on (hr e he) k h
  have notIn : ∀ k, S k = true → j ∉ (waitsFor ops.toList).getD k [] := fun k hk hjk => by
    have := hcl k hk j hjk; rw [hS] at this; cases this
  have before : ∀ k pk, ps[k]? = some pk → k < j → S k = true ∨ (pk.o.apart ops pj.o = true ∧ (∀ x ∈ pk.wids, x ∉ pj.fp.r ++ pj.fp.w)) := fun k pk hk hkj => by
    rcases I.pair k j _ _ pk pj hkj (hops k pk hk) (hops j pj hj) hk hj with h | ⟨h1, h2, _⟩
    · exact .inl (waitsIn k h)
    · exact .inr ⟨h1, by rw [← fp_w]; exact h2⟩
  have behind : ∀ k pk, ps[k]? = some pk → j < k → S k = false ∨ (pj.o.apart ops pk.o = true ∧ (∀ x ∈ pj.wids, x ∉ pk.fp.r ++ pk.wids) ∧ ∀ x ∈ pk.wids, x ∉ pj.fp.r) := fun k pk hk hjk => by
    rcases I.pair j k _ _ pj pk hjk (hops j pj hj) (hops k pk hk) hj hk with h | ⟨h1, h2, h3⟩
    · left
      cases hSk : S k with
      | false => rfl
      | true => exact absurd h (notIn k hSk)
    · refine .inr ⟨h1, ?_, ?_⟩
      · rw [← fp_w, ← fp_w pk]; exact h2
      · rw [← fp_w]; exact h3
  refine ⟨fun k pk t hk ht hl => ?_, fun k pk x hk hx hl => ?_, fun k pk hk hjk hSk => ?_⟩
  · rcases Nat.lt_trichotomy k j with h | h | h
    · rcases before k pk hk h with h1 | ⟨h1, _⟩
      · simp [h1, h]
      · exact absurd hl ((Oper.apart_spec h1).1 t ht)
    · subst h; simp [hS]
    · rcases behind k pk hk h with h1 | ⟨h1, _⟩
      · simp [h1]; omega
      · exact absurd hl ((Oper.apart_spec h1).2.2 t ht)
  · rcases Nat.lt_trichotomy k j with h | h | h
    · rcases before k pk hk h with h1 | ⟨_, h1⟩
      · simp [h1, h]
      · exact absurd hl (h1 x hx)
    · subst h; simp [hS]
    · rcases behind k pk hk h with h1 | ⟨_, h1, h2⟩
      · simp [h1]; omega
      · rcases List.mem_append.1 hl with hl | hl
        · exact absurd hl (h2 x hx)
        · rw [fp_w] at hl
          exact absurd (List.mem_append.2 (.inr hx)) (h1 x hl)
  · rcases behind k pk hk hjk with h1 | ⟨h1, h2, _⟩
    · rw [h1] at hSk; cases hSk
    · exact ⟨fun d hd hd' => (Oper.apart_spec h1).2.1 d hd' hd, fun x hx hx' => h2 x hx' (List.mem_append.2 (.inr hx))⟩

end Go.Ev
