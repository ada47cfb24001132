/-
  ARGUMENTS AS A ROW READS THEM: data of our kinds.
-/
import Derived.Test.YtonpbpkkepacpaaFvY
import Derived.ChangeMaps5
import Derived.RowKit
import Derived.WideShapes
import Derived.ChangeShapes
import Derived.Below
import Derived.ProofKit
import Derived.OpenShut
import Derived.ShutString
import Derived.ChangeOld
set_option linter.all false
namespace Go.Ev
variable {A : Type}

def Kind.noOpq : Kind → Bool
  | .opq => false
  | .pair a b => a.noOpq && b.noOpq
  | .arr _ e => e.noOpq
  | .sl e => e.noOpq
  | _ => true

/-- What a row's reading of an argument tells of it: numbers fit, lengths are modest. -/
def WF : (K : Kind) → K.den → Prop
  | .int k => fun (n : Int) => k.min ≤ n ∧ n ≤ k.max
  | .bool => fun _ => True
  | .str => fun (s : ByteArray) => s.size ≤ maxLen
  | .opq => fun _ => True
  | .unit => fun _ => True
  | .pair a b => fun (x : a.den × b.den) => WF a x.1 ∧ WF b x.2
  | .arr n e => fun (l : List e.den) => l.length = n ∧ ∀ x ∈ l, WF e x
  | .sl e => fun (l : List e.den) => l.length ≤ maxLen ∧ ∀ x ∈ l, WF e x

theorem mapM_some {α β : Type} {f : α → Option β} : ∀ {l : List α} {ys : List β}, l.mapM f = some ys → ∀ x ∈ l, ∃ y, f x = some y
  | [], _, _, x, hx => by cases hx
  | a :: l, ys, h, x, hx => by
    simp only [List.mapM_cons, Option.bind_eq_bind, Option.bind_eq_some_iff] at h
    obtain ⟨y, hy, zs, hz, _⟩ := h
    rcases List.mem_cons.1 hx with rfl | hx
    · exact ⟨y, hy⟩
    · exact mapM_some hz x hx

theorem mapM_len {α β : Type} {f : α → Option β} : ∀ {l : List α} {ys : List β}, l.mapM f = some ys → ys.length = l.length ∧ ∀ (i : Nat) (x : α), l[i]? = some x → ∃ y, ys[i]? = some y ∧ f x = some y
  | [], ys, h => by simp at h; subst h; simp
  | a :: l, ys, h => by
    simp only [List.mapM_cons, Option.bind_eq_bind, Option.bind_eq_some_iff] at h
    obtain ⟨y, hy, zs, hz, h⟩ := h
    simp at h; subst h
    obtain ⟨h1, h2⟩ := mapM_len hz
    refine ⟨by simp [h1], fun i x hi => ?_⟩
    cases i with
    | zero => simp at hi; subst hi; exact ⟨y, by simp, hy⟩
    | succ i => simp at hi; simpa using h2 i x hi

theorem all2_choose {α β γ : Type} {R : α → β → Prop} {g : γ → β} : ∀ {is : List γ}, (∀ i ∈ is, ∃ x, R x (g i)) → ∃ xs, All2 R xs (is.map g)
  | [], _ => ⟨[], .nil⟩
  | i :: is, h => by
    obtain ⟨x, hx⟩ := h i (by simp)
    obtain ⟨xs, hxs⟩ := all2_choose (is := is) fun i hi => h i (by simp [hi])
    exact ⟨x :: xs, .cons hx hxs⟩

theorem All2.left {α β : Type} {R : α → β → Prop} {xs : List α} {ys : List β} (h : All2 R xs ys) : ∀ x ∈ xs, ∃ y ∈ ys, R x y := fun x hx => by
  obtain ⟨i, hi⟩ := List.mem_iff_getElem?.1 hx
  obtain ⟨y, hy, hr⟩ := h.get hi
  exact ⟨y, List.mem_of_getElem? hy, hr⟩

theorem flatten_get {css : List (List Value)} {m : Nat} (h : ∀ c ∈ css, c.length = m) : ∀ {j : Nat} {v : Value}, css.flatten[j]? = some v → ∃ i c o, css[i]? = some c ∧ o < m ∧ j = i * m + o ∧ c[o]? = some v := by
  induction css with
  | nil => intro j v h; simp at h
  | cons c css ih =>
    intro j v hj
    have hc := h c (by simp)
    rw [List.flatten_cons, List.getElem?_append] at hj
    split at hj
    · rename_i hlt
      exact ⟨0, c, j, by simp, by omega, by simp, hj⟩
    · rename_i hge
      obtain ⟨i, d, o, h1, h2, h3, h4⟩ := ih (fun c hc => h c (by simp [hc])) hj
      exact ⟨i + 1, d, o, by simpa using h1, h2, by rw [Nat.add_mul]; omega, h4⟩

theorem cell_lt {w : World} {a : Addr} {v : Value} (h : w.cell? a = some v) : a.block < w.heap.size := by
  apply Nat.lt_of_not_le
  intro hle
  unfold World.cell? at h
  rw [Array.getElem?_eq_none hle] at h
  cases h

section
variable {P : Program} {E : Env A} (T : TyOK P E) {H : Type} {enc : TypeId × Value → H} {w : World} {base : Nat} {sp : Nat → Bool} {held : Bool}
include T

theorem trod_RP : ∀ (fuel : Nat) (t : TypeId) (i : TI) (cs : List Value) (z : DataW H × List MemPlace), E.ty.lookup t = some i → i.K.noOpq = true → DataW.trod enc P w base sp held fuel t cs = some z →
    ∃ x : i.K.den, RP (fun b => b < w.heap.size) w i.K x cs ∧ WF i.K x
  | 0, _, _, _, _, _, _, h => by simp [DataW.trod] at h
  | fuel + 1, t, i, cs, z, hi, hq, h => by
    obtain ⟨ds, hu, hd⟩ := T.desc hi
    have hcell := T.cellsOf hi
    obtain ⟨K, td, by', cm⟩ := i
    simp only at hd hq hcell ⊢
    unfold DataW.trod at h
    rw [hu] at h
    cases ds with
    | bool =>
      cases td <;> cases K <;> simp at hd
      simp only at h
      split at h <;> try (cases h; done)
      all_goals first | (rename_i heq; cases heq; done) | skip
      rename_i b heq
      exact ⟨b, rfl, trivial⟩
    | int k =>
      cases td <;> cases K <;> simp at hd
      subst hd
      simp only at h
      split at h <;> try (cases h; done)
      all_goals first | (rename_i heq; cases heq; done) | skip
      rename_i heq
      cases heq
      split at h
      · rename_i hw
        obtain ⟨rfl, hw⟩ := hw
        simp only [Lit.wf, Bool.and_eq_true, decide_eq_true_eq] at hw
        exact ⟨_, rfl, hw⟩
      · cases h
    | string =>
      cases td <;> cases K <;> simp at hd
      simp only at h
      split at h <;> try (cases h; done)
      all_goals first | (rename_i heq; cases heq; done) | skip
      split at h
      · rename_i s heq hw
        exact ⟨s, rfl, hw⟩
      · cases h
    | slice e =>
      cases td <;> cases K <;> simp at hd
      rename_i e' Ke
      obtain ⟨rfl, hd⟩ := hd
      obtain ⟨j, hj, hjK, hpos⟩ : ∃ j, E.ty.lookup e = some j ∧ j.K = Ke ∧ 0 < Ke.size := by
        cases h : E.ty.lookup e with
        | none => rw [h] at hd; simp at hd
        | some j => rw [h] at hd; simp at hd; exact ⟨j, rfl, hd.1.1, hd.1.2⟩
      subst hjK
      simp only at h
      split at h <;> try (cases h; done)
      all_goals first | (rename_i heq; cases heq; done) | skip
      · exact ⟨[], ⟨none, 0, rfl, Nat.le_refl _, fun h => absurd h (Nat.lt_irrefl _)⟩, by simp, fun x hx => by cases hx⟩
      · rename_i a len cap heq
        cases heq
        split at h
        · rename_i hc
          obtain ⟨_, hlc, hcm⟩ := hc
          obtain ⟨elems, he, h⟩ := Option.bind_eq_some_iff.1 h
          rw [T.cellsOf hj] at he
          -- the elements
          let g : Nat → List Value := fun i => ((w.cells? base (a.add (i * j.K.size)) j.K.size).getD [])
          have each : ∀ i ∈ List.range len, ∃ x, (RP (fun b => b < w.heap.size) w j.K x (g i) ∧ WF j.K x) ∧ w.cells? base (a.add (i * j.K.size)) j.K.size = some (g i) := fun i hi => by
            obtain ⟨y, hy⟩ := mapM_some he i hi
            obtain ⟨cs, hcs, hy⟩ := Option.bind_eq_some_iff.1 hy
            have hgi : g i = cs := by simp [g, hcs]
            obtain ⟨x, h1, h2⟩ := trod_RP fuel e j cs y hj hq hy
            exact ⟨x, by rw [hgi]; exact ⟨h1, h2⟩, by rw [hgi]; exact hcs⟩
          obtain ⟨xs, hxs⟩ := all2_choose (R := fun x c => RP (fun b => b < w.heap.size) w j.K x c ∧ WF j.K x) (g := g) fun i hi => by obtain ⟨x, h, _⟩ := each i hi; exact ⟨x, h⟩
          have hlen : xs.length = len := by rw [hxs.length]; simp
          have hrp : All2 (RP (fun b => b < w.heap.size) w j.K) xs ((List.range len).map g) := hxs.imp fun _ _ _ _ h => h.1
          have cell : ∀ i o v, i < len → (g i)[o]? = some v → w.cell? (a.add (i * j.K.size + o)) = some v := fun i o v hi ho => by
            obtain ⟨x, _, hcs⟩ := each i (by simpa using hi)
            unfold World.cells? at hcs
            split at hcs
            · obtain ⟨h1, h2⟩ := mapM_len hcs
              have hol : o < j.K.size := by have := (List.getElem?_eq_some_iff.1 ho).1; rw [h1] at this; simpa using this
              obtain ⟨y, hy, hv⟩ := h2 o o (by simp [hol])
              rw [ho] at hy; cases hy
              rw [add_add] at hv; exact hv
            · cases hcs
          refine ⟨xs, ⟨some a, cap, by rw [hlen], by rw [hlen]; exact hlc, fun hp => ⟨a, (List.range len).map g, rfl, ?_, hrp, fun q v hv => ?_⟩⟩, by rw [hlen]; omega, fun x hx => by obtain ⟨c, _, h⟩ := hxs.left x hx; exact h.2⟩
          · -- a cell of the first
            rw [hlen] at hp
            obtain ⟨x, ⟨h1, _⟩, hcs⟩ := each 0 (by simpa using hp)
            have hl := RP.length h1
            have := cell 0 0 ((g 0)[0]'(by omega)) hp (List.getElem?_eq_getElem _)
            have := cell_lt this
            rwa [add_block] at this
          · obtain ⟨i, c, o, h1, h2, rfl, h4⟩ := flatten_get hrp.lens hv
            rw [List.getElem?_map, Option.map_eq_some_iff] at h1
            obtain ⟨i', h1, rfl⟩ := h1
            have hi := (List.getElem?_eq_some_iff.1 h1).1
            have : i' = i := by rw [List.getElem?_range (by simpa using hi)] at h1; exact (Option.some.inj h1).symm
            subst this
            exact cell i' o v (by simpa using hi) h4
        · cases h
    | array n e =>
      cases td <;> cases K <;> simp at hd
      rename_i n' e' n'' Ke
      obtain ⟨⟨⟨rfl, rfl⟩, rfl⟩, hd⟩ := hd
      obtain ⟨j, hj, hjK⟩ : ∃ j, E.ty.lookup e = some j ∧ j.K = Ke := by
        cases h : E.ty.lookup e with
        | none => rw [h] at hd; simp at hd
        | some j => rw [h] at hd; simp at hd; exact ⟨j, rfl, hd.1⟩
      subst hjK
      simp only at h
      split at h
      · rename_i hl
        rw [hcell] at hl
        obtain ⟨xs, hxs, _⟩ := Option.map_eq_some_iff.1 h
        rw [T.cellsOf hj] at hxs
        obtain ⟨ys, hys⟩ := all2_choose (R := fun x c => RP (fun b => b < w.heap.size) w j.K x c ∧ WF j.K x) (g := fun i => cut cs (i * j.K.size) j.K.size) (is := List.range n) fun i hi => by
          obtain ⟨y, hy⟩ := mapM_some hxs i hi
          exact trod_RP fuel e j _ y hj hq hy
        have hlen : ys.length = n := by rw [hys.length]; simp
        refine ⟨ys, ⟨hlen, _, ?_, hys.imp fun _ _ _ _ h => h.1⟩, hlen, fun x hx => by obtain ⟨c, _, h⟩ := hys.left x hx; exact h.2⟩
        exact chunks n j.K.size cs hl
      · cases h
    | struct fs =>
      cases td with
      | struct ts =>
        have hd : fieldsB E.ty fs.toList ts K 0 = true := hd
        simp only at h
        split at h
        · rename_i hl
          rw [hcell] at hl
          obtain ⟨xs, hxs, _⟩ := Option.map_eq_some_iff.1 h
          have gen : ∀ (fs : List Field) (ts : List TypeId) (K : Kind) (off : Nat), fieldsB E.ty fs ts K off = true → K.noOpq = true → (∀ f ∈ fs, ∃ y, DataW.trod enc P w base sp held fuel f.type ((cs.drop f.offset).take (P.cellsOf f.type)) = some y) →
              ∃ x : K.den, RP (fun b => b < w.heap.size) w K x ((cs.drop off).take K.size) ∧ WF K x := by
            intro fs
            induction fs with
            | nil =>
              intro ts K off hb _ _
              cases ts <;> cases K <;> simp [fieldsB] at hb
              exact ⟨(), by simp [Kind.size, RP], trivial⟩
            | cons f fs ih =>
              intro ts K off hb hq hall
              cases ts with
              | nil => simp [fieldsB] at hb
              | cons t ts =>
                cases K with
                | pair a b =>
                  simp only [fieldsB, Bool.and_eq_true, beq_iff_eq, decide_eq_true_eq] at hb
                  obtain ⟨⟨⟨⟨rfl, hoff⟩, hpos⟩, hl⟩, hb⟩ := hb
                  simp only [Kind.noOpq, Bool.and_eq_true] at hq
                  cases hf : E.ty.lookup f.type with
                  | none => rw [hf] at hl; cases hl
                  | some j =>
                    rw [hf] at hl
                    have hjK : j.K = a := by simpa using hl
                    subst hjK
                    obtain ⟨y, hy⟩ := hall f (by simp)
                    rw [hoff, T.cellsOf hf] at hy
                    obtain ⟨x1, h1, h2⟩ := trod_RP fuel f.type j _ y hf hq.1 hy
                    obtain ⟨x2, h3, h4⟩ := ih ts b (off + j.K.size) hb hq.2 fun f hf => hall f (by simp [hf])
                    refine ⟨(x1, x2), ⟨_, _, ?_, h1, h3⟩, h2, h4⟩
                    rw [Kind.size, List.take_add, List.drop_drop]
                | _ => simp [fieldsB] at hb
          obtain ⟨x, h1, h2⟩ := gen fs.toList ts K 0 hd hq fun f hf => mapM_some hxs f hf
          refine ⟨x, ?_, h2⟩
          rw [List.drop_zero, List.take_of_length_le (by omega)] at h1
          exact h1
        · cases h
      | prim => cases K <;> simp at hd
      | slice _ => cases K <;> simp at hd
      | array _ _ => cases K <;> simp at hd
      | map _ _ => cases K <;> simp at hd
      | ptr _ => cases K <;> simp at hd
      | other => cases K <;> simp at hd
    | map k v => cases td <;> cases K <;> simp at hd; simp [Kind.noOpq] at hq
    | pointer e => cases td <;> cases K <;> simp at hd; simp [Kind.noOpq] at hq
    | _ => cases td <;> cases K <;> simp at hd

open Go.WideShapes in
/-- An argument. -/
theorem arg_sound {r : Reach} {b0 : Nat} {t : TypeId} {i : TI} {v : Value} {d : DataW H} {ps : List MemPlace} (hi : E.ty.lookup t = some i) (hq : i.K.noOpq = true) (hok : Value.okWide P w r b0 t v) (h : DataW.Trod enc P w base sp held t v d ps) :
    ∃ x : i.K.den, RS (X0 (fun b => b < w.heap.size) w) (.p i.K x) v ∧ WF i.K x := by
  obtain ⟨fuel, h⟩ := h
  obtain ⟨x, h1, h2⟩ := trod_RP T fuel t i _ _ hi hq h
  refine ⟨x, RS.of0 ?_ (by simp), h2⟩
  obtain ⟨ds, hu, hd⟩ := T.desc hi
  have leaf : i.K.isAgg = false → v.cells = #[v] → RS0 (X0 (fun b => b < w.heap.size) w) (.p i.K x) v := fun ha hv => by
    rw [hv] at h1
    exact .inr ⟨[v], h1, .inr ⟨ha, rfl⟩⟩
  have agg : i.K.isAgg = true → (∃ cs, v = .agg cs) → RS0 (X0 (fun b => b < w.heap.size) w) (.p i.K x) v := fun ha hv => by
    obtain ⟨cs, rfl⟩ := hv
    exact .inr ⟨cs.toList, h1, .inl ⟨ha, by simp⟩⟩
  obtain ⟨K, td, by', cm⟩ := i
  simp only at hd hq leaf agg ⊢
  cases ds with
  | bool => cases td <;> cases K <;> simp at hd; obtain ⟨b, rfl⟩ := okWide_bool hu hok; exact leaf rfl rfl
  | int k => cases td <;> cases K <;> simp at hd; obtain ⟨b, rfl⟩ := okWide_int hu hok; exact leaf rfl rfl
  | string => cases td <;> cases K <;> simp at hd; obtain ⟨b, rfl⟩ := okWide_string hu hok; exact leaf rfl rfl
  | slice e => cases td <;> cases K <;> simp at hd; obtain ⟨a, l, c, rfl⟩ := okWide_slice hu hok; exact leaf rfl rfl
  | array n e =>
    cases td <;> cases K <;> simp at hd
    unfold Value.okWide at hok
    rw [hu] at hok
    obtain ⟨cs, rfl, _⟩ := hok
    exact agg rfl ⟨cs, rfl⟩
  | struct fs =>
    unfold Value.okWide at hok
    rw [hu] at hok
    obtain ⟨cs, rfl, _⟩ := hok
    cases td with
    | struct ts =>
      have hd : fieldsB E.ty fs.toList ts K 0 = true := hd
      have hag : K.isAgg = true := by
        cases hf : fs.toList <;> cases ts <;> cases K <;> simp [hf, fieldsB] at hd <;> rfl
      exact agg hag ⟨cs, rfl⟩
    | prim => cases K <;> simp at hd
    | slice _ => cases K <;> simp at hd
    | array _ _ => cases K <;> simp at hd
    | map _ _ => cases K <;> simp at hd
    | ptr _ => cases K <;> simp at hd
    | other => cases K <;> simp at hd
  | map k v => cases td <;> cases K <;> simp at hd; simp [Kind.noOpq] at hq
  | pointer e => cases td <;> cases K <;> simp at hd; simp [Kind.noOpq] at hq
  | _ => cases td <;> cases K <;> simp at hd

end
end Go.Ev
