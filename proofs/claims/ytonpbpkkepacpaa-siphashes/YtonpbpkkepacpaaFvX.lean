/-
  CODE: states numbered anew, loops, results.
-/
import Derived.Test.YtonpbpkkepacpaaFvW
import Derived.LoopN
set_option linter.all false
namespace Go.Ev
variable {A : Type}

theorem take_range {l : List Nat} {m : Nat} (h : (l.take m == List.range m) = true) {i : Nat} (hi : i < m) : l[i]? = some i := by
  have h := eq_of_beq h
  have := congrArg (fun l : List Nat => l[i]?) h
  simpa [List.getElem?_take, hi] using this

theorem Emb.pevo {X Z : Cx} {l : List Nat} {sl : Bool} {m : Nat} (E : Emb X Z (pos l) sl) (hl : l.Nodup) (h : (l.take m == List.range m) = true) : PEvo m X Z := by
  have key : ∀ i, i < m → pos l i = some i := fun i hi => pos_of hl (take_range h hi)
  refine ⟨fun id b hm hb hn => ⟨_, E.hp id id b (key id hm) hb, ?_⟩, fun id b hm hb _ => E.ρ id id b (key id hm) hb⟩
  cases b with
  | var t K v => exact .var ..
  | row e K xs => exact .row _ _ _ _ rfl
  | map KK KV es => exact .map ..
  | gone => exact .gone _
  | free => exact absurd rfl hn

theorem canon_sound {gl : GL} {X : Cx} {s : St} {a : Act} (h : Rel gl X s a) (dead : List Nat) (hk : ((canonL dead s).take s.m == List.range s.m) = true) : ∃ Z : Cx, Z.w = X.w ∧ WEvo X Z ∧ PEvo s.m X Z ∧ Rel gl Z (canon dead s) a := by
  have hnd : (canonL dead s).Nodup := closure_nodup _ _ _ _ (by simp)
  obtain ⟨Z, h1, h2, h3, h4, h5, h6⟩ := renumber h.hp h.ok (l := canonL dead s) hnd (G := []) (by simp)
  refine ⟨Z, h1, h5, h6.pevo hnd hk, h.glo.evo h5 h.ok.fo, h.defers, by simp [canon, canonTm, h.size], fun i av hi => ?_, h2, h4⟩
  simp only [canon, canonTm, List.getElem?_map, Option.map_eq_some_iff] at hi
  obtain ⟨v, ⟨q, hq, rfl⟩, rfl⟩ := hi
  rw [List.getElem?_zipIdx, Option.map_eq_some_iff] at hq
  obtain ⟨v0, hv0, rfl⟩ := hq
  obtain ⟨u, g1, g2⟩ := h.tm i v0 hv0
  refine ⟨u, g1, ?_⟩
  simp only
  split
  · exact RS.any _
  · exact RS.emb h6 (fun _ => rfl) g2

theorem canonK_sound {A : Type} {dead : List Nat} {s : St} {k : St → Option A} {out : A} (h : canonK dead s k = some out) : k (canon dead s) = some out ∧ ((canonL dead s).take s.m == List.range s.m) = true := by
  unfold canonK at h
  cases hb : (canonL dead s).take s.m == List.range s.m with
  | true => rw [hb] at h; exact ⟨h, rfl⟩
  | false => rw [hb] at h; cases h

-- ------------------------------------------------------------ code

def Ex.out : Ex → Exit
  | .normal => .normal
  | .exit id => .exit id
  | .ret => .ret

def CSem (P : Program) (gl : GL) (c : Code) (s : St) (x : Ex) (s' : St) : Prop :=
  s'.m = s.m ∧ ∀ (X : Cx) (a : Act) (Q : Exit → Act → World → Prop), Rel gl X s a → (∀ (Y : Cx) (a' : Act), WEvo X Y → PEvo s.m X Y → Rel gl Y s' a' → Q x.out a' Y.w) → c.wp P Q a X.w

def RSem (P : Program) (gl : GL) (c : Code) (n : Nat) (s : St) (x : Ex) (s' : St) : Prop :=
  s'.m = s.m ∧ ∀ (X : Cx) (a : Act) (Q : Exit → Act → World → Prop), Rel gl X s a → (∀ (Y : Cx) (a' : Act), WEvo X Y → PEvo s.m X Y → Rel gl Y s' a' → Q x.out a' Y.w) → Code.rounds P c Q n a X.w

theorem drew_sound {gl : GL} {X : Cx} {s : St} {a : Act} (h : Rel gl X s a) : ∃ Z : Cx, Z.w = { X.w with drawn := X.w.drawn + 1 } ∧ WEvo X Z ∧ HEvo X Z ∧ Rel gl Z s a := by
  have W : WEvo X ⟨X.ρ, X.hp, X.F, { X.w with drawn := X.w.drawn + 1 }⟩ := ⟨rfl, rfl, rfl, Nat.le_refl _, fun _ c _ _ h => ⟨c, h, rfl⟩, fun _ _ _ => rfl, fun _ _ h => h, fun _ h => h, fun _ h => .inl h⟩
  have H : HEvo X ⟨X.ρ, X.hp, X.F, { X.w with drawn := X.w.drawn + 1 }⟩ := ⟨fun _ b hb hn => ⟨b, hb, .refl hn⟩, fun _ _ _ _ => rfl⟩
  exact ⟨⟨X.ρ, X.hp, X.F, { X.w with drawn := X.w.drawn + 1 }⟩, rfl, W, H, h.glo.evo W h.ok.fo, h.defers, h.size, fun i av hi => by obtain ⟨v, h1, h2⟩ := h.tm i av hi; exact ⟨v, h1, h2.evo W H h.ok.fo⟩, h.hp,
    ⟨fun id b hb => (h.ok.blk id b hb).evo W H h.ok.fo rfl fun _ _ _ => rfl, h.ok.inj, h.ok.fo⟩⟩

def loopsOf : Nat → Code → List (Nat × Code)
  | j, .seq a b => loopsOf j a ++ loopsOf (j + loops a) b
  | j, .cond _ a b => loopsOf j a ++ loopsOf (j + loops a) b
  | j, .block _ c => loopsOf j c
  | j, .loop c => (j, c) :: loopsOf (j + 1) c
  | _, _ => []

def LoopOK (P : Program) (gl : GL) (c : Code) (L : Loop A) : Prop :=
  ∀ (s : St) (k : Ex → St → Option A) (out : A), L.run s k = some out → ∃ x s', k x s' = some out ∧ CSem P gl (.loop c) s x s'

theorem Sh.read_fill : ∀ {h : Sh} {v : AV} {x : h.den}, h.read v = some x → v = h.fill x
  | .any, v, x, hr => by cases v <;> first | rfl | (simp [Sh.read] at hr)
  | .p K, v, x, hr => by
    cases v <;> simp only [Sh.read] at hr <;> first | (cases hr; done) | skip
    split at hr
    · rename_i h; subst h; cases hr; rfl
    · cases hr
  | .pr a b, v, x, hr => by
    cases v <;> simp only [Sh.read] at hr <;> first | (cases hr; done) | skip
    split at hr
    · rename_i h1 h2
      cases hr
      simp only [Sh.fill]
      rw [← Sh.read_fill h1, ← Sh.read_fill h2]
    · cases hr
  | .row id, v, x, hr => by
    cases v <;> simp only [Sh.read] at hr <;> first | (cases hr; done) | skip
    split at hr
    · rename_i h; subst h; rfl
    · cases hr
  | .ptr id, v, x, hr => by
    cases v with
    | ptr id' q =>
      cases q with
      | nil =>
        simp only [Sh.read] at hr
        split at hr
        · rename_i h; subst h; rfl
        · cases hr
      | cons => simp [Sh.read] at hr
    | _ => simp [Sh.read] at hr
  | .mp id, v, x, hr => by
    cases v <;> simp only [Sh.read] at hr <;> first | (cases hr; done) | skip
    split at hr
    · rename_i h; subst h; rfl
    · cases hr
  | .nilp, v, x, hr => by cases v <;> first | rfl | (simp [Sh.read] at hr)
  | .slc id, v, x, hr => by
    cases v with
    | slc id' q lo len =>
      cases q with
      | nil =>
        simp only [Sh.read] at hr
        split at hr
        · rename_i h; subst h; cases hr; rfl
        · cases hr
      | cons => simp [Sh.read] at hr
    | _ => simp [Sh.read] at hr

theorem BSh.read_fill : ∀ {h : BSh} {v : Blk} {x : h.den}, h.read v = some x → v = h.fill x
  | .var t K h, v, x, hr => by
    cases v <;> simp only [BSh.read] at hr <;> first | (cases hr; done) | skip
    split at hr
    · rename_i he; obtain ⟨rfl, rfl⟩ := he; simp only [BSh.fill]; rw [← Sh.read_fill hr]
    · cases hr
  | .row t K, v, x, hr => by
    cases v <;> simp only [BSh.read] at hr <;> first | (cases hr; done) | skip
    split at hr
    · rename_i h; subst h
      split at hr
      · rename_i h; subst h; cases hr; rfl
      · cases hr
    · cases hr
  | .map KK KV, v, x, hr => by
    cases v <;> simp only [BSh.read] at hr <;> first | (cases hr; done) | skip
    split at hr
    · rename_i h; subst h
      split at hr
      · rename_i h; subst h; cases hr; rfl
      · cases hr
    · cases hr
  | .gone, v, x, hr => by cases v <;> first | rfl | (simp [BSh.read] at hr)

theorem shRead_fill : ∀ {hs : List Sh} {vs : List AV} {x : shDen hs}, shRead hs vs = some x → vs = shFill hs x
  | [], [], _, _ => rfl
  | h :: r, v :: vs, x, hr => by
    simp only [shRead] at hr
    split at hr
    · rename_i h1 h2
      cases hr
      simp only [shFill]
      rw [← Sh.read_fill h1, ← shRead_fill h2]
    · cases hr
  | [], _ :: _, _, h => by cases h
  | _ :: _, [], _, h => by cases h

theorem bshRead_fill : ∀ {hs : List BSh} {vs : List Blk} {x : bshDen hs}, bshRead hs vs = some x → vs = bshFill hs x
  | [], [], _, _ => rfl
  | h :: r, v :: vs, x, hr => by
    simp only [bshRead] at hr
    split at hr
    · rename_i h1 h2
      cases hr
      simp only [bshFill]
      rw [← BSh.read_fill h1, ← bshRead_fill h2]
    · cases hr
  | [], _ :: _, _, h => by cases h
  | _ :: _, [], _, h => by cases h

theorem argD_sound {out : A} {v : AV} {K : Kind} {k : K.den → Option A} (h : argD v K k = some out) : ∃ x, v = .p K x ∧ k x = some out := by
  unfold argD at h
  split at h
  · split at h
    · rename_i h'; subst h'; exact ⟨_, rfl, h⟩
    · cases h
  · cases h

section
variable {P : Program} {E : Env A} (T : TyOK P E) (fns : FnsOK P E) (hm : P.follows .mixedOrders = true) {out : A}
include T fns hm

theorem region_sound {id : Nat} {ops : Array Oper} {draw : Bool} {s : St} {k : St → Option A} (h : regionK E ops draw s k = some out) : ∃ s', k s' = some out ∧ CSem P E.gl (.region id ops draw) s .normal s' := by
  unfold regionK at h
  obtain ⟨ps, s', hc, hk⟩ := opsK_sound T fns h
  cases draw with
  | false =>
    refine ⟨s', by simpa using hk, chain_m hc, fun X a Q hr hq => wp_region ?_⟩
    have := chain_text hc (i := 0) (by simp) hr (Q := Q) fun Y a' h1 h2 h3 => hq Y a' h2 (h3.pevo _) h1
    rw [Array.length_toList, ← List.range_eq_range'] at this
    exact this
  | true =>
    simp only [cond_true, List.append_nil, List.reverse_reverse] at hk
    cases hi : indepB ops (ps.map Stp.fp) with
    | false => rw [hi] at hk; cases hk
    | true =>
      rw [hi] at hk
      have hlen : ps.length = ops.size := by rw [chain_len hc]; simp
      have I := indepB_spec hi hlen
      refine ⟨s', hk, chain_m hc, fun X a Q hr hq => wp_region_any hm ?_⟩
      obtain ⟨Z, h1, h2, hH, h3⟩ := drew_sound hr
      rw [← h1]
      have none_ : ∀ i, i < ops.size → (Array.replicate ops.size false).getD i true = false := fun i hi => by simp [Array.getD, hi]
      refine chain_any hc I ops.size _ Z a (by simp) (fun j o hj hl => ?_) (Nat.le_trans (List.length_filter_le _ _) (by simp)) ?_ fun Y a' g1 g2 g3 => hq Y a' (h2.trans g2) ((hH.trans g3).pevo _) g1
      · have : j < ops.size := by have := (List.getElem?_eq_some_iff.1 hj).1; simpa using this
        rw [none_ j this] at hl; cases hl
      · have : app (fun i => (Array.replicate ops.size false).getD i true) 0 ps s = s := by
          rw [app_same (S' := fun _ => false) ps 0 s fun k hk => by rw [Nat.zero_add, none_ k (by omega)]]
          exact app_none _ ps 0 s fun _ _ => rfl
        rw [this]; exact h3

theorem codeK_sound : ∀ {j : Nat} {c : Code}, (∀ q ∈ loopsOf j c, ∀ L, E.lps.lookup q.1 = some L → LoopOK P E.gl q.2 L) → ∀ {s : St} {k : Ex → St → Option A}, codeK E j c s k = some out → ∃ x s', k x s' = some out ∧ CSem P E.gl c s x s'
  | j, .skip, lo, s, k, h => ⟨.normal, s, h, rfl, fun X a Q hr hq => wp_skip (hq X a (.refl X) (.refl _ X) hr)⟩
  | j, .region id ops draw, lo, s, k, h => by
    obtain ⟨s', h1, h2⟩ := region_sound T fns hm (id := id) (by simpa [codeK] using h)
    exact ⟨.normal, s', h1, h2⟩
  | j, .seq c d, lo, s, k, h => by
    simp only [codeK] at h
    obtain ⟨x, s1, h1, hm1, h2⟩ := codeK_sound (fun q hq => lo q (by simp only [loopsOf, List.mem_append]; exact .inl hq)) h
    have other : ∀ (y : Ex), y ≠ .normal → x = y → k y s1 = some out → ∃ x s', k x s' = some out ∧ CSem P E.gl (.seq c d) s x s' := fun y hy hx hk =>
      ⟨y, s1, hk, hm1, fun X a Q hr hq => wp_seq (h2 X a _ hr fun Y a' W V R => by subst hx; have := hq Y a' W V R; cases x <;> first | exact absurd rfl hy | exact this)⟩
    cases x with
    | normal =>
      obtain ⟨y, s2, h3, hm2, h4⟩ := codeK_sound (c := d) (fun q hq => lo q (by simp only [loopsOf, List.mem_append]; exact .inr hq)) (s := s1) h1
      exact ⟨y, s2, h3, hm2.trans hm1, fun X a Q hr hq => wp_seq (h2 X a _ hr fun Y a' W V R => h4 Y a' Q R fun Z b WZ VZ RZ => hq Z b (W.trans WZ) (V.trans (hm1 ▸ VZ)) RZ)⟩
    | exit id => exact other (.exit id) (by simp) rfl h1
    | ret => exact other .ret (by simp) rfl h1
  | j, .cond c d e, lo, s, k, h => by
    simp only [codeK] at h
    split at h
    · rename_i t
      split at h
      · rename_i q hq
        have ev : ∀ {X : Cx} {a : Act}, Rel E.gl X s a → a.eval (.tmp t) = .bool q := fun {X a} hr => by
          have := hr.eval t
          rw [List.getD_eq_getElem?_getD, hq, Option.getD_some, RS.bool] at this
          exact this
        cases q with
        | true =>
          simp only [cond_true, St.put_same hq] at h
          obtain ⟨x, s1, h1, hm1, h2⟩ := codeK_sound (c := d) (fun q hq => lo q (by simp only [loopsOf, List.mem_append]; exact .inl hq)) (s := s) h
          exact ⟨x, s1, h1, hm1, fun X a Q hr hq => wp_cond_true (ev hr) (h2 X a Q hr hq)⟩
        | false =>
          simp only [cond_false, St.put_same hq] at h
          obtain ⟨x, s1, h1, hm1, h2⟩ := codeK_sound (c := e) (fun q hq => lo q (by simp only [loopsOf, List.mem_append]; exact .inr hq)) (s := s) h
          exact ⟨x, s1, h1, hm1, fun X a Q hr hq => wp_cond_false (ev hr) (h2 X a Q hr hq)⟩
      · cases h
    · rename_i q
      cases q with
      | true =>
        obtain ⟨x, s1, h1, hm1, h2⟩ := codeK_sound (c := d) (fun q hq => lo q (by simp only [loopsOf, List.mem_append]; exact .inl hq)) (s := s) h
        exact ⟨x, s1, h1, hm1, fun X a Q hr hq => wp_cond_true rfl (h2 X a Q hr hq)⟩
      | false =>
        obtain ⟨x, s1, h1, hm1, h2⟩ := codeK_sound (c := e) (fun q hq => lo q (by simp only [loopsOf, List.mem_append]; exact .inr hq)) (s := s) h
        exact ⟨x, s1, h1, hm1, fun X a Q hr hq => wp_cond_false rfl (h2 X a Q hr hq)⟩
    · cases h
  | j, .block id c, lo, s, k, h => by
    simp only [codeK] at h
    obtain ⟨x, s1, h1, hm1, h2⟩ := codeK_sound (c := c) (fun q hq => lo q (by simpa only [loopsOf] using hq)) h
    cases x with
    | normal => exact ⟨.normal, s1, h1, hm1, fun X a Q hr hq => wp_block (h2 X a _ hr hq)⟩
    | exit j =>
      simp only [blockC] at h1
      split at h1
      · rename_i hj
        exact ⟨.normal, s1, h1, hm1, fun X a Q hr hq => wp_block (h2 X a _ hr fun Y a' W V R => by simp only [Ex.out, Exit.inBlock, hj, if_true]; exact hq Y a' W V R)⟩
      · rename_i hj
        exact ⟨.exit j, s1, h1, hm1, fun X a Q hr hq => wp_block (h2 X a _ hr fun Y a' W V R => by simp only [Ex.out, Exit.inBlock, hj, if_false]; exact hq Y a' W V R)⟩
    | ret => exact ⟨.ret, s1, h1, hm1, fun X a Q hr hq => wp_block (h2 X a _ hr hq)⟩
  | j, .loop c, lo, s, k, h => by
    simp only [codeK] at h
    split at h
    · rename_i L hL
      obtain ⟨h, hc⟩ := canonK_sound h
      obtain ⟨x, s', h1, hm1, h2⟩ := lo (j, c) (by simp [loopsOf]) L hL _ _ _ h
      refine ⟨x, s', h1, hm1, fun X a Q hr hq => ?_⟩
      obtain ⟨Z, g1, g2, gp, g3⟩ := canon_sound hr L.dead hc
      rw [← g1]
      exact h2 Z a Q g3 fun V b WV PV RV => hq V b (g2.trans WV) (gp.trans PV) RV
    · cases h
  | j, .exit id, lo, s, k, h => ⟨.exit id, s, h, rfl, fun X a Q hr hq => wp_exit (hq X a (.refl X) (.refl _ X) hr)⟩
  | j, .ret, lo, s, k, h => ⟨.ret, s, h, rfl, fun X a Q hr hq => wp_ret (hq X a (.refl X) (.refl _ X) hr)⟩
  | _, .label _, _, _, _, h => by cases h
  | _, .goto _, _, _, _, h => by cases h
  | _, .scope _, _, _, _, h => by cases h

/-- The rounds of a loop. -/
theorem loopK_sound {j : Nat} {c : Code} (lo : ∀ q ∈ loopsOf j c, ∀ L, E.lps.lookup q.1 = some L → LoopOK P E.gl q.2 L) (dead : List Nat) {k : Ex → St → Option A} : ∀ (f : Nat) (s : St), loopK (codeK E j c) dead f s k = some out → ∃ x s', k x s' = some out ∧ RSem P E.gl c f s x s' := by
  intro f
  induction f with
  | zero => intro s h; cases h
  | succ f ih =>
    intro s h
    simp only [loopK] at h
    obtain ⟨x, s1, h1, hm1, h2⟩ := codeK_sound T fns hm lo h
    obtain ⟨h1, hc⟩ := canonK_sound h1
    have other : x ≠ .normal → k x (canon dead s1) = some out → ∃ x s', k x s' = some out ∧ RSem P E.gl c (f + 1) s x s' := fun hy hk =>
      ⟨x, canon dead s1, hk, hm1, fun X a Q hr hq => by
        rw [rounds_succ]
        refine h2 X a _ hr fun Y a' W V R => ?_
        obtain ⟨Z, g1, g2, gp, g3⟩ := canon_sound R dead hc
        have := hq Z a' (W.trans g2) (V.trans (hm1 ▸ gp)) g3
        rw [g1] at this
        cases x <;> first | exact absurd rfl hy | exact this⟩
    cases x with
    | normal =>
      obtain ⟨y, s2, h3, hm2, h4⟩ := ih _ h1
      refine ⟨y, s2, h3, hm2.trans hm1, fun X a Q hr hq => ?_⟩
      rw [rounds_succ]
      refine h2 X a _ hr fun Y a' W V R => ?_
      obtain ⟨Z, g1, g2, gp, g3⟩ := canon_sound R dead hc
      show Code.rounds P c Q f a' Y.w
      rw [← g1]
      have gp' : PEvo s.m Y Z := hm1 ▸ gp
      exact h4 Z a' Q g3 fun U b WV PV RV => hq U b ((W.trans g2).trans WV) ((V.trans gp').trans (hm1 ▸ PV)) RV
    | exit id => exact other (by simp) h1
    | ret => exact other (by simp) h1

/-- A loop's entry, by the equation of its function. -/
theorem LoopOK.of {j n : Nat} {c : Code} (lo : ∀ q ∈ loopsOf j c, ∀ L, E.lps.lookup q.1 = some L → LoopOK P E.gl q.2 L) {dead : List Nat} {S : Shape} {g : S.den → (Ex → St → Option A) → Option A}
    (h : ∀ d k, loopK (codeK E j c) dead n (S.fill d) k = g d k) : LoopOK P E.gl c (loopE dead S g) := by
  intro s k out hr
  simp only [loopE] at hr
  split at hr
  · rename_i hm0
    split at hr
    · rename_i x y hx hy
      have hs : s = S.fill (x, y) := by
        obtain ⟨tm, hp, m⟩ := s
        simp only at hx hy hm0
        subst hm0
        rw [shRead_fill hx, bshRead_fill hy]
        rfl
      rw [← h] at hr
      obtain ⟨x', s', h1, hm1, h2⟩ := loopK_sound T fns hm lo dead n _ hr
      rw [← hs] at hm1 h2
      exact ⟨x', s', h1, hm1, fun X a Q hr hq => wp_loop_rounds n (h2 X a Q hr hq)⟩
    · cases hr
  · cases hr
end
end Go.Ev
