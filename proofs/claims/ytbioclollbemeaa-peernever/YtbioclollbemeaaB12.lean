import Derived.Test.YtbioclollbemeaaB8
import Derived.Test.YtbioclollbemeaaPeerF7
import Derived.Test.YtbioclollbemeaaPeerF6
import Derived.Test.YtbioclollbemeaaB5
import Derived.Test.YtbioclollbemeaaB6
import Derived.Test.YtbioclollbemeaaB9
set_option linter.all false
section
/-
  THE LAWS OF PeerPlays, PeerBans: a step of both.
-/
set_option linter.all false
namespace Go.Ev
variable {A : Type}

abbrev OP := kT32.den

/-- What both hold behind a call. -/
structure Good (r : R4) (wt : Bool) (mp : PM) (L : List PK) : Prop where
  sim : Sim mp L
  lo : 0 ≤ r.2.2.1
  hi : r.2.2.1 ≤ 1073741824

theorem sco_ok {s : Int} (N : Int) (h : 0 ≤ s ∧ s ≤ 1073741824) : 0 ≤ sco s N ∧ sco s N ≤ 1073741824 := by
  unfold sco imin imax; constructor <;> (repeat' split) <;> omega

theorem ref_law (n : Nat) (kk : PK) (g : PK → Option A) : ref_k n kk g = g kk := by
  obtain ⟨a, b, c, u⟩ := kk; rfl
/-- An op's key. -/
def kof (o : OP) : PK := (iand .i64 o.2.1 7, ((List.replicate 32 (0 : Int)).set 0 (IntKind.wrap .u8 o.2.2.1), (iand .i64 o.2.2.1 1, ())))
theorem key_law (n : Nat) (o : OP) (g : PK → Option A) : key_k n o g = g (kof o) := rfl
def r0 : R4 := (0, (0, (0, (false, ()))))
theorem new_law (n : Nat) (b m : Int) (hR : Rt b m) (k0 : Int → Option A) (k1 : Int → Int → Int → PK → Int → Bool → R4 → PM → Option A) : new__k n b m k0 k1 = k1 0 b m zk 0 false r0 [] := by
  unfold new__k new__p
  rw [right_law, decide_eq_true hR]; rfl
theorem new_off (n : Nat) (b m : Int) (hR : ¬ Rt b m) (k0 : Int → Option A) (k1 : Int → Int → Int → PK → Int → Bool → R4 → PM → Option A) : new__k n b m k0 k1 = k0 1 := by
  unfold new__k new__p
  rw [right_law, decide_eq_false hR]; rfl
theorem later_law (n : Nat) (now x : Int) (g : Int → Option A) : later_k n now x g = g (IntKind.wrap .i64 (now + imin (imax x 0) 1048576)) := rfl

theorem step_law (n : Nat) (hn : 1000 ≤ n) (b m : Int) (hR : Rt b m) (o : OP) (now : Int) (key : PK) (dl : Int) (wt : Bool) (r : R4) (mp : PM) (L : List PK) (hg : Good r wt mp L) (hL : L.length < 500) :
    ∃ key' dl' wt' r' mp' L', (∀ g : kT53.den → Bool → Int → Int → PK → Int → Bool → R4 → PM → Option A, step_k n (XX b m wt key dl L r) o now b m key dl wt r mp g = g (XX b m wt' key' dl' L' r') true b m key' dl' wt' r' mp') ∧
      Good r' wt' mp' L' ∧ L'.length ≤ L.length + 1 ∧ (o.1 ≠ 6 → r'.2.2.1 = r.2.2.1 ∧ r'.2.2.2.1 = r.2.2.2.1) ∧ (o.1 = 6 → r'.2.2.1 = sco r.2.2.1 o.2.2.2.1 ∧ r'.2.2.2.1 = (r.2.2.2.1 || decide (100 ≤ sco r.2.2.1 o.2.2.2.1))) ∧
      ((r.2.2.2.1 = true → wt = false ∧ L = []) → (r'.2.2.2.1 = true → wt' = false ∧ L' = [])) := by
  have hs := hg.sim
  have keyl : ∀ g : PK → Option A, ∃ kk, key_k n o g = g kk := fun g => ⟨_, rfl⟩
  obtain ⟨kk, hkk⟩ : ∃ kk : PK, ∀ g : PK → Option A, key_k n o g = g kk := ⟨_, fun g => rfl⟩
  have hst : ∀ g : kT53.den → Bool → Int → Int → PK → Int → Bool → R4 → PM → Option A, step_k n (XX b m wt key dl L r) o now b m key dl wt r mp g = step_p (key_k n) (ref_k n) (rask_k n) (ask_k n) (rtick_k n) (tick_k n) (rmatch_k n) (match__k n) (fail_k n) (rfail_k n) (hold_k n) (rhold_k n) (rblame_k n) (blame_k n) n (XX b m wt key dl L r) o now b m key dl wt r mp g := fun g => rfl
  by_cases h1 : o.1 = 1
  · obtain ⟨e, key', dl', wt', a1, a2, a3, _⟩ := ask_both (A := A) n now b m kk key dl wt r mp L
    refine ⟨key', dl', wt', r, mp, L, fun g => ?_, ⟨hs, hg.lo, hg.hi⟩, by omega, fun _ => ⟨rfl, rfl⟩, fun h => absurd (h1.symm.trans h) (by decide), fun h hb => ?_⟩
    · rw [hst]; unfold step_p
      rw [hkk, show (o.1 == 1) = true from by rw [h1]; rfl, cond_true]
      rw [ref_law, a1, a2, beq_self_eq_true]
    · have := h hb; rw [a3 hb]; exact this
  · by_cases h2 : o.1 = 2
    · obtain ⟨kq, ok, key', dl', wt', r', mp', L', a1, a2, a3, a4, a5, a6, _⟩ := tick_both (A := A) n (by omega) now b m hR key dl wt r mp L hs (by omega)
      refine ⟨key', dl', wt', r', mp', L', fun g => ?_, ⟨a3, by rw [a5]; exact hg.lo, by rw [a5]; exact hg.hi⟩, a4, fun _ => ⟨by rw [a5], by rw [a5]⟩, fun h => absurd (h2.symm.trans h) (by decide), fun h hb => ?_⟩
      · rw [hst]; unfold step_p
        rw [hkk, show (o.1 == 1) = false from by rw [h2]; rfl, cond_false, show (o.1 == 2) = true from by rw [h2]; rfl, cond_true, a1, a2, deq_self, cond_true]
        rw [ref_law, deq_self]
      · rw [a5] at hb
        have h3 := h hb
        have h4 := a6 h3.1
        rw [h4.1, h4.2]; exact ⟨rfl, h3.2⟩
    · by_cases h3 : o.1 = 3
      · obtain ⟨e, key', dl', wt', r', mp', L', a1, a2, a3, a4, a5, a6, a7⟩ := match_both (A := A) n hn b m kk key dl wt r mp L hs (by omega)
        refine ⟨key', dl', wt', r', mp', L', fun g => ?_, ⟨a3, by rw [a5]; exact hg.lo, by rw [a5]; exact hg.hi⟩, by omega, fun _ => ⟨by rw [a5], by rw [a5]⟩, fun h => absurd (h3.symm.trans h) (by decide), fun h hb => ?_⟩
        · rw [hst]; unfold step_p
          rw [hkk, show (o.1 == 1) = false from by rw [h3]; rfl, cond_false, show (o.1 == 2) = false from by rw [h3]; rfl, cond_false, show (o.1 == 3) = true from by rw [h3]; rfl, cond_true]
          rw [ref_law, a1, a2, beq_self_eq_true]
        · rw [a5] at hb
          have h4 := h hb
          refine ⟨a6 h4.1, List.eq_nil_of_length_eq_zero ?_⟩
          rw [h4.2] at a4; simpa using a4
      · by_cases h4 : o.1 = 4
        · refine ⟨key, dl, wt, (IntKind.wrap .i64 (r.1 + 1), (IntKind.wrap .i64 (now + DD b m (IntKind.wrap .i64 (r.1 + 1))), r.2.2)), mp, L, fun g => ?_, ⟨hs, hg.lo, hg.hi⟩, by omega, fun _ => ⟨rfl, rfl⟩, fun h => absurd (h4.symm.trans h) (by decide), fun h hb => h hb⟩
          rw [hst]; unfold step_p
          rw [hkk, show (o.1 == 1) = false from by rw [h4]; rfl, cond_false, show (o.1 == 2) = false from by rw [h4]; rfl, cond_false, show (o.1 == 3) = false from by rw [h4]; rfl, cond_false, show (o.1 == 4) = true from by rw [h4]; rfl, cond_true, fail_law n (by omega) b m hR, rfail_law n (by omega) b m hR]
        · by_cases h5 : o.1 = 5
          · refine ⟨key, dl, wt, (r.1, (imax r.2.1 (IntKind.wrap .i64 (now + imin (imax o.2.2.2.1 0) 1048576)), r.2.2)), mp, L, fun g => ?_, ⟨hs, hg.lo, hg.hi⟩, by omega, fun _ => ⟨rfl, rfl⟩, fun h => absurd (h5.symm.trans h) (by decide), fun h hb => h hb⟩
            rw [hst]; unfold step_p
            rw [hkk, show (o.1 == 1) = false from by rw [h5]; rfl, cond_false, show (o.1 == 2) = false from by rw [h5]; rfl, cond_false, show (o.1 == 3) = false from by rw [h5]; rfl, cond_false, show (o.1 == 4) = false from by rw [h5]; rfl, cond_false, show (o.1 == 5) = true from by rw [h5]; rfl, cond_true]
            unfold hold_k hold_p rhold_k rhold_p imax XX
            dsimp only
            by_cases hw : r.2.1 < IntKind.wrap .i64 (now + imin (if 0 > o.2.2.2.1 then 0 else o.2.2.2.1) 1048576)
            · rw [decide_eq_true hw, cond_true, if_pos hw]
            · rw [decide_eq_false hw, cond_false, if_neg hw]
          · by_cases h6 : o.1 = 6
            · obtain ⟨e, key', dl', wt', r', mp', L', a1, a2, a3, a4, a5, a6, a7, a8⟩ := blame_both (A := A) n b m o.2.2.2.1 key dl wt r mp L hs ⟨hg.lo, hg.hi⟩
              have hsc := sco_ok o.2.2.2.1 ⟨hg.lo, hg.hi⟩
              refine ⟨key', dl', wt', r', mp', L', fun g => ?_, ⟨a3, by rw [a5]; exact hsc.1, by rw [a5]; exact hsc.2⟩, by omega, fun h => absurd h6 h, fun _ => ⟨a5, a6⟩, fun h hb => ?_⟩
              · rw [hst]; unfold step_p
                rw [hkk, show (o.1 == 1) = false from by rw [h6]; rfl, cond_false, show (o.1 == 2) = false from by rw [h6]; rfl, cond_false, show (o.1 == 3) = false from by rw [h6]; rfl, cond_false, show (o.1 == 4) = false from by rw [h6]; rfl, cond_false, show (o.1 == 5) = false from by rw [h6]; rfl, cond_false, show (o.1 == 6) = true from by rw [h6]; rfl, cond_true, a1, a2, deq_self]
              · cases hbr : r.2.2.2.1 with
                | true =>
                  obtain ⟨b1, b2⟩ := a7 hbr
                  have := h hbr
                  rw [b1, b2]; exact this
                | false => exact a8 hbr hb
            · refine ⟨key, dl, wt, r, mp, L, fun g => ?_, hg, by omega, fun _ => ⟨rfl, rfl⟩, fun h => absurd h h6, fun h hb => h hb⟩
              rw [hst]; unfold step_p
              rw [hkk, beq_eq_false_iff_ne.2 h1, cond_false, beq_eq_false_iff_ne.2 h2, cond_false, beq_eq_false_iff_ne.2 h3, cond_false, beq_eq_false_iff_ne.2 h4, cond_false, beq_eq_false_iff_ne.2 h5, cond_false, beq_eq_false_iff_ne.2 h6, cond_false]

theorem same_law (n : Nat) (hn : 1000 ≤ n) (b m : Int) (kk : PK) (now : Int) (key : PK) (dl : Int) (wt : Bool) (r : R4) (mp : PM) (L : List PK) (hs : Sim mp L) (hL : L.length < 900) (g : Bool → Int → Int → PK → Int → Bool → R4 → PM → Option A) :
    same_k n (XX b m wt key dl L r) kk now b m key dl wt r mp g = g true b m key dl wt r mp := by
  unfold same_k same_p
  show (bif (!(deq .bool wt wt)) then _ else _) = _
  rw [deq_self, Bool.not_true, cond_false]
  show (bif (!(deq kT38 key key)) then _ else _) = _
  rw [deq_self, Bool.not_true, cond_false]
  show (bif (dl != dl) then _ else _) = _
  rw [bne_self_eq_false, cond_false, ready_law, rready_law, deq_self, cond_true]
  show rcount_k n (XX b m wt key dl L r) kk _ = _
  rw [rcount_law n hn b m wt key dl L r kk hL]
  show (bif (cnt kT38 mp kk == _) then _ else _) = _
  rw [hs.c kk, beq_self_eq_true, cond_true]
  show (bif (r.1 == r.1) then _ else _) = _
  rw [beq_self_eq_true, cond_true]
  show (bif (r.2.1 == r.2.1) then _ else _) = _
  rw [beq_self_eq_true, cond_true]
  show (bif (r.2.2.1 == r.2.2.1) then _ else _) = _
  rw [beq_self_eq_true, cond_true]
  show g (deq .bool r.2.2.2.1 r.2.2.2.1) b m key dl wt r mp = _
  rw [deq_self]

theorem plays_l0_law (n : Nat) (hn : 1000 ≤ n) (b m : Int) (hR : Rt b m) (l : List OP) (hl : l.length ≤ 60) (k0 k1 : Option A) : ∀ (d f i : Nat) (now : Int) (key : PK) (dl : Int) (wt : Bool) (r : R4) (mp : PM) (L : List PK), i + d = l.length → d < f → Good r wt mp L → L.length ≤ i →
    plays_l0 (awake_k n) (new__k n) (rright_k n) (later_k n) (step_k n) (key_k n) (same_k n) n l (l.length : Int) k0 k1 f now (i : Int) b m key dl wt r mp (XX b m wt key dl L r) = k1 := by
  intro d
  induction d with
  | zero =>
    intro f i now key dl wt r mp L hi hf hg hL
    obtain ⟨f, rfl⟩ : ∃ g, f = g + 1 := ⟨f - 1, by omega⟩
    rw [plays_l0, plays_b0, decide_eq_false (by omega), cond_false]
  | succ d ih =>
    intro f i now key dl wt r mp L hi hf hg hL
    obtain ⟨f, rfl⟩ : ∃ g, f = g + 1 := ⟨f - 1, by omega⟩
    have hlt : i < l.length := by omega
    have e1 : IntKind.wrap .i64 ((i : Int) + 1) = ((i + 1 : Nat) : Int) := by rw [wrap_id (by omega) (by omega)]; omega
    rw [plays_l0, plays_b0, decide_eq_true (by omega), cond_true, if_pos (by omega), Int.toNat_natCast, List.getElem?_eq_getElem hlt, Option.bind_some]
    rw [later_law]
    generalize IntKind.wrap .i64 (now + imin (imax l[i].2.2.2.2.1 0) 1048576) = now'
    obtain ⟨key', dl', wt', r', mp', L', a1, a2, a3, _⟩ := step_law (A := A) n hn b m hR l[i] now' key dl wt r mp L hg (by omega)
    rw [a1, Bool.not_true, cond_false]
    rw [key_law, same_law n hn b m _ now' key' dl' wt' r' mp' L' a2.sim (by omega), Bool.not_true, cond_false, e1]
    exact ih f (i + 1) now' key' dl' wt' r' mp' L' (by omega) (by omega) a2 (by omega)

theorem plays_law (a0 a1 : Int) (a2 : List OP) (f0 : WF (.int .i64) a0) (f1 : WF (.int .i64) a1) (f2 : WF (.sl kT32) a2) : ∃ n, plays_k n a0 a1 a2 (fun r => some r) = some true := by
  refine ⟨1000, ?_⟩
  have haw : ∀ k : Bool → Option Bool, awake_k 1000 k = k true := awake_1000
  have hn : 1000 ≤ 1000 := Nat.le_refl _
  generalize hN : 1000 = n at haw
  rw [hN] at hn
  unfold plays_k plays_p
  by_cases h : (a2.length : Int) > 60
  · rw [decide_eq_true h, cond_true, haw]
  · rw [decide_eq_false h, cond_false]
    by_cases hR : Rt a0 a1
    · rw [new_law n a0 a1 hR, rright_law, decide_eq_true hR, Bool.not_true, cond_false, show ((0 : Int) != 0) = false from rfl, cond_false]
      exact (plays_l0_law n (by omega) a0 a1 hR a2 (by omega) (some false) (awake_k n fun r34 => some r34) a2.length n 0 0 zk 0 false r0 [] [] (by omega) (by omega) ⟨.nil, by decide, by decide⟩ (by simp)).trans (haw _)
    · rw [new_off n a0 a1 hR, rright_law, decide_eq_false hR, Bool.not_false, cond_true, show ((1 : Int) == 1) = true from rfl, cond_true, haw]

/-- What a sum of blames and a peer have to do with each other. -/
structure Sum (sum : Int) (r : R4) (wt : Bool) (L : List PK) : Prop where
  lo : 0 ≤ sum
  small : r.2.2.1 < 100 → sum = r.2.2.1
  big : 100 ≤ r.2.2.1 → 100 ≤ sum
  ban : r.2.2.2.1 = decide (100 ≤ r.2.2.1)
  none : r.2.2.2.1 = true → wt = false ∧ L = []

theorem Sum.said {sum : Int} {r : R4} {wt : Bool} {L : List PK} (h : Sum sum r wt L) : deq .bool r.2.2.2.1 (decide (sum ≥ 100)) = true := by
  rw [deq_iff, h.ban, decide_eq_decide]
  constructor
  · exact h.big
  · intro h1
    rcases Int.lt_or_le r.2.2.1 100 with h2 | h2
    · have := h.small h2; omega
    · exact h2

theorem bans_end (n : Nat) (b m : Int) (kk : PK) (key : PK) (dl : Int) (wt : Bool) (r : R4) (mp : PM) (L : List PK) (sum : Int) (hg : Good r wt mp L) (hs : Sum sum r wt L) (k0 : Option A) (go : Int → Int → PK → Int → Bool → R4 → PM → Option A) (o : OP) :
    (banned_k n b m key dl wt r mp fun r24 r25 r26 r27 r28 r29 r30 r31 =>
        bif (!(deq .bool r24 (decide (sum ≥ 100)))) then
          k0
        else
          waits_k n r25 r26 r27 r28 r29 r30 r31 fun r32 r33 r34 r35 r36 r37 r38 r39 r40 r41 =>
          banned_k n r35 r36 r37 r38 r39 r40 r41 fun r42 r43 r44 r45 r46 r47 r48 r49 =>
          bif r42 then
            bif r34 then
              k0
            else
              ready_k n 1099511627776 r43 r44 r45 r46 r47 r48 r49 fun r50 r51 r52 r53 r54 r55 r56 r57 =>
              bif r50 then
                k0
              else
                key_k n o fun r58 =>
                late_k n r58 r51 r52 r53 r54 r55 r56 r57 fun r59 r60 r61 r62 r63 r64 r65 r66 =>
                bif (r59 != 0) then
                  k0
                else
                  go r60 r61 r62 r63 r64 r65 r66
          else
            go r43 r44 r45 r46 r47 r48 r49) = go b m key dl wt r mp := by
  show (bif (!(deq .bool r.2.2.2.1 (decide (sum ≥ 100)))) then _ else _) = _
  rw [hs.said, Bool.not_true, cond_false]
  show (bif r.2.2.2.1 then _ else _) = _
  cases hb : r.2.2.2.1 with
  | false => rfl
  | true =>
    obtain ⟨h1, h2⟩ := hs.none hb
    subst h1; subst h2
    rw [cond_true, cond_false, ready_law, hb]
    show (bif false then _ else _) = _
    rw [cond_false, key_law]
    show (bif (cnt kT38 mp (kof o) != 0) then _ else _) = _
    rw [hg.sim.c (kof o), lc_nil]
    rfl

theorem bans_l0_law (n : Nat) (hn : 1000 ≤ n) (b m : Int) (hR : Rt b m) (l : List OP) (hl : l.length ≤ 60) (k0 k1 : Option A) : ∀ (d f i : Nat) (sum now : Int) (key : PK) (dl : Int) (wt : Bool) (r : R4) (mp : PM) (L : List PK), i + d = l.length → d < f → Good r wt mp L → Sum sum r wt L → sum ≤ 1000 * i → L.length ≤ i →
    bans_l0 (awake_k n) (rright_k n) (new__k n) (later_k n) (step_k n) (banned_k n) (waits_k n) (ready_k n) (key_k n) (late_k n) n l (l.length : Int) k0 k1 f sum now (i : Int) b m key dl wt r mp (XX b m wt key dl L r) = k1 := by
  intro d
  induction d with
  | zero =>
    intro f i sum now key dl wt r mp L hi hf hg hs hsum hL
    obtain ⟨f, rfl⟩ : ∃ g, f = g + 1 := ⟨f - 1, by omega⟩
    rw [bans_l0, bans_b0, decide_eq_false (by omega), cond_false]
  | succ d ih =>
    intro f i sum now key dl wt r mp L hi hf hg hs hsum hL
    obtain ⟨f, rfl⟩ : ∃ g, f = g + 1 := ⟨f - 1, by omega⟩
    have hlt : i < l.length := by omega
    have e1 : IntKind.wrap .i64 ((i : Int) + 1) = ((i + 1 : Nat) : Int) := by rw [wrap_id (by omega) (by omega)]; omega
    rw [bans_l0, bans_b0, decide_eq_true (by omega), cond_true, if_pos (by omega), Int.toNat_natCast, List.getElem?_eq_getElem hlt, Option.bind_some, later_law]
    generalize hnow : IntKind.wrap .i64 (now + imin (imax l[i].2.2.2.2.1 0) 1048576) = now'
    obtain ⟨key', dl', wt', r', mp', L', a1, a2, a3, a4, a5, a6⟩ := step_law (A := A) n hn b m hR l[i] now' key dl wt r mp L hg (by omega)
    have hlo := hs.lo
    by_cases h6 : l[i].1 = 6
    · obtain ⟨b1, b2⟩ := a5 h6
      have hadd : 0 ≤ imin (imax l[i].2.2.2.1 0) 1000 ∧ imin (imax l[i].2.2.2.1 0) 1000 ≤ 1000 := by unfold imin imax; constructor <;> (repeat' split) <;> omega
      have hs' : Sum (IntKind.wrap .i64 (sum + imin (imax l[i].2.2.2.1 0) 1000)) r' wt' L' := by
        rw [wrap_id (by omega) (by omega)]
        have hsc : sco r.2.2.1 l[i].2.2.2.1 = sco r.2.2.1 l[i].2.2.2.1 := rfl
        have hlo2 := hg.lo
        refine ⟨by omega, fun h => ?_, fun h => ?_, ?_, a6 hs.none⟩
        · rw [b1] at h ⊢
          have h3 : r.2.2.1 < 100 := by revert h; unfold sco imin imax; (repeat' split) <;> omega
          rw [hs.small h3]
          revert h; unfold sco imin imax; (repeat' split) <;> omega
        · rw [b1] at h
          rcases Int.lt_or_le r.2.2.1 100 with h2 | h2
          · rw [hs.small h2]
            revert h; unfold sco imin imax; (repeat' split) <;> omega
          · have := hs.big h2; omega
        · rw [b2, b1, hs.ban]
          rcases Int.lt_or_le r.2.2.1 100 with h2 | h2
          · rw [decide_eq_false (show ¬ (100 : Int) ≤ r.2.2.1 by omega), Bool.false_or]
          · have h3 : 100 ≤ sco r.2.2.1 l[i].2.2.2.1 := by unfold sco imin imax; (repeat' split) <;> omega
            rw [decide_eq_true h2, decide_eq_true h3]; rfl
      have hsum' : IntKind.wrap .i64 (sum + imin (imax l[i].2.2.2.1 0) 1000) ≤ 1000 * ((i + 1 : Nat) : Int) := by rw [wrap_id (by omega) (by omega)]; omega
      generalize IntKind.wrap .i64 (sum + imin (imax l[i].2.2.2.1 0) 1000) = sum' at hs' hsum'
      rw [show (l[i].1 == 6) = true from by rw [h6]; rfl, cond_true, a1, e1]
      exact (bans_end n b m (kof l[i]) key' dl' wt' r' mp' L' sum' a2 hs' k0 (fun r60 r61 r62 r63 r64 r65 r66 => bans_l0 (awake_k n) (rright_k n) (new__k n) (later_k n) (step_k n) (banned_k n) (waits_k n) (ready_k n) (key_k n) (late_k n) n l (l.length : Int) k0 k1 f sum' now' ((i + 1 : Nat) : Int) r60 r61 r62 r63 r64 r65 r66 (XX b m wt' key' dl' L' r')) l[i]).trans
        (ih f (i + 1) sum' now' key' dl' wt' r' mp' L' (by omega) (by omega) a2 hs' hsum' (by omega))
    · obtain ⟨b1, b2⟩ := a4 h6
      have hs' : Sum sum r' wt' L' := ⟨hs.lo, by rw [b1]; exact hs.small, by rw [b1]; exact hs.big, by rw [b1, b2]; exact hs.ban, a6 hs.none⟩
      rw [show (l[i].1 == 6) = false from beq_eq_false_iff_ne.2 h6, cond_false, a1, e1]
      exact (bans_end n b m (kof l[i]) key' dl' wt' r' mp' L' sum a2 hs' k0 (fun r60 r61 r62 r63 r64 r65 r66 => bans_l0 (awake_k n) (rright_k n) (new__k n) (later_k n) (step_k n) (banned_k n) (waits_k n) (ready_k n) (key_k n) (late_k n) n l (l.length : Int) k0 k1 f sum now' ((i + 1 : Nat) : Int) r60 r61 r62 r63 r64 r65 r66 (XX b m wt' key' dl' L' r')) l[i]).trans
        (ih f (i + 1) sum now' key' dl' wt' r' mp' L' (by omega) (by omega) a2 hs' (by omega) (by omega))

theorem bans_law (a0 a1 : Int) (a2 : List OP) (f0 : WF (.int .i64) a0) (f1 : WF (.int .i64) a1) (f2 : WF (.sl kT32) a2) : ∃ n, bans_k n a0 a1 a2 (fun r => some r) = some true := by
  refine ⟨1000, ?_⟩
  have haw : ∀ k : Bool → Option Bool, awake_k 1000 k = k true := awake_1000
  have hn : 1000 ≤ 1000 := Nat.le_refl _
  generalize hN : 1000 = n at haw
  rw [hN] at hn
  unfold bans_k bans_p
  by_cases h : (a2.length : Int) > 60
  · rw [decide_eq_true h, cond_true, haw]
  · rw [decide_eq_false h, cond_false, rright_law]
    by_cases hR : Rt a0 a1
    · rw [decide_eq_true hR, Bool.not_true, cond_false, new_law n a0 a1 hR, show ((0 : Int) != 0) = false from rfl, cond_false]
      exact (bans_l0_law n (by omega) a0 a1 hR a2 (by omega) (some false) (awake_k n fun r34 => some r34) a2.length n 0 0 0 zk 0 false r0 [] [] (by omega) (by omega) ⟨.nil, by decide, by decide⟩ ⟨by decide, fun _ => rfl, fun h => absurd h (by decide), rfl, fun h => by cases h⟩ (by omega) (by simp)).trans (haw _)
    · rw [decide_eq_false hR, Bool.not_false, cond_true, haw]

end Go.Ev
end

section
/-
  FUNCTION 5: printed by a program of our own (wip/gen/st.py). 'masthead/mastheadlaw24.PeerLate', in continuation form; the evaluator gives it.
-/
set_option linter.all false
set_option maxRecDepth 100000
namespace Go.Ev
open Go.Proofs
variable {A : Type}

-- ============================================================ latel (function 5)
def latel_p (g_rright : Int → Int → (Bool → Option A) → Option A) (g_awake : (Bool → Option A) → Option A) (g_new_ : Int → Int → (Int → Option A) → (Int → Int → Int → (Int × ((List Int) × (Int × Unit))) → Int → Bool → (Int × (Int × (Int × (Bool × Unit)))) → (List ((Int × ((List Int) × (Int × Unit))) × Int)) → Option A) → Option A) (g_key : (Int × (Int × (Int × (Int × (Int × Unit))))) → ((Int × ((List Int) × (Int × Unit))) → Option A) → Option A) (g_ask : (Int × ((List Int) × (Int × Unit))) → Int → Int → Int → (Int × ((List Int) × (Int × Unit))) → Int → Bool → (Int × (Int × (Int × (Bool × Unit)))) → (List ((Int × ((List Int) × (Int × Unit))) × Int)) → (Int → Int → Int → (Int × ((List Int) × (Int × Unit))) → Int → Bool → (Int × (Int × (Int × (Bool × Unit)))) → (List ((Int × ((List Int) × (Int × Unit))) × Int)) → Option A) → Option A) (g_tick : Int → Int → Int → (Int × ((List Int) × (Int × Unit))) → Int → Bool → (Int × (Int × (Int × (Bool × Unit)))) → (List ((Int × ((List Int) × (Int × Unit))) × Int)) → ((Int × ((List Int) × (Int × Unit))) → Bool → Int → Int → (Int × ((List Int) × (Int × Unit))) → Int → Bool → (Int × (Int × (Int × (Bool × Unit)))) → (List ((Int × ((List Int) × (Int × Unit))) × Int)) → Option A) → Option A) (g_late : (Int × ((List Int) × (Int × Unit))) → Int → Int → (Int × ((List Int) × (Int × Unit))) → Int → Bool → (Int × (Int × (Int × (Bool × Unit)))) → (List ((Int × ((List Int) × (Int × Unit))) × Int)) → (Int → Int → Int → (Int × ((List Int) × (Int × Unit))) → Int → Bool → (Int × (Int × (Int × (Bool × Unit)))) → (List ((Int × ((List Int) × (Int × Unit))) × Int)) → Option A) → Option A) (g_wake : Int → Int → (Int × ((List Int) × (Int × Unit))) → Int → Bool → (Int × (Int × (Int × (Bool × Unit)))) → (List ((Int × ((List Int) × (Int × Unit))) × Int)) → (Int → Int → Int → (Int × ((List Int) × (Int × Unit))) → Int → Bool → (Int × (Int × (Int × (Bool × Unit)))) → (List ((Int × ((List Int) × (Int × Unit))) × Int)) → Option A) → Option A) (g_ready : Int → Int → Int → (Int × ((List Int) × (Int × Unit))) → Int → Bool → (Int × (Int × (Int × (Bool × Unit)))) → (List ((Int × ((List Int) × (Int × Unit))) × Int)) → (Bool → Int → Int → (Int × ((List Int) × (Int × Unit))) → Int → Bool → (Int × (Int × (Int × (Bool × Unit)))) → (List ((Int × ((List Int) × (Int × Unit))) × Int)) → Option A) → Option A) (g_match_ : (Int × ((List Int) × (Int × Unit))) → Int → Int → (Int × ((List Int) × (Int × Unit))) → Int → Bool → (Int × (Int × (Int × (Bool × Unit)))) → (List ((Int × ((List Int) × (Int × Unit))) × Int)) → (Int → Int → Int → (Int × ((List Int) × (Int × Unit))) → Int → Bool → (Int × (Int × (Int × (Bool × Unit)))) → (List ((Int × ((List Int) × (Int × Unit))) × Int)) → Option A) → Option A) (n : Nat) (a0 : (Int × (Int × (Int × ((Int × (Int × (Int × (Int × (Int × Unit))))) × Unit))))) (k : Bool → Option A) : Option A :=
  g_rright a0.1 a0.2.1 fun r1 =>
  bif (!r1) then
    g_awake fun r2 =>
    k r2
  else
    bif (decide (a0.2.2.1 < 0)) then
      g_awake fun r3 =>
      k r3
    else
      bif (decide (a0.2.2.1 > 549755813888)) then
        g_awake fun r4 =>
        k r4
      else
        g_new_ a0.1 a0.2.1 (fun r5 =>
          bif (r5 != 0) then
            k false
          else
            k false) (fun r6 r7 r8 r9 r10 r11 r12 r13 =>
          bif (r6 != 0) then
            k false
          else
            g_key a0.2.2.2.1 fun r14 =>
            g_ask r14 a0.2.2.1 r7 r8 r9 r10 r11 r12 r13 fun r15 r16 r17 r18 r19 r20 r21 r22 =>
            bif (r15 != 0) then
              k false
            else
              g_tick (IntKind.wrap .i64 ((IntKind.wrap .i64 (a0.2.2.1 + a0.1)) - 1)) r16 r17 r18 r19 r20 r21 r22 fun r23 r24 r25 r26 r27 r28 r29 r30 r31 =>
              bif r24 then
                k false
              else
                g_tick (IntKind.wrap .i64 (a0.2.2.1 + a0.1)) r25 r26 r27 r28 r29 r30 r31 fun r32 r33 r34 r35 r36 r37 r38 r39 r40 =>
                bif r33 then
                  g_key a0.2.2.2.1 fun r41 =>
                  bif (deq kT38 r32 r41) then
                    g_late r32 r34 r35 r36 r37 r38 r39 r40 fun r42 r43 r44 r45 r46 r47 r48 r49 =>
                    bif (r42 == 1) then
                      g_wake r43 r44 r45 r46 r47 r48 r49 fun r50 r51 r52 r53 r54 r55 r56 r57 =>
                      bif (r50 == (IntKind.wrap .i64 ((IntKind.wrap .i64 (a0.2.2.1 + a0.1)) + a0.1))) then
                        g_ready (IntKind.wrap .i64 (a0.2.2.1 + a0.1)) r51 r52 r53 r54 r55 r56 r57 fun r58 r59 r60 r61 r62 r63 r64 r65 =>
                        bif (!r58) then
                          g_match_ r32 r59 r60 r61 r62 r63 r64 r65 fun r66 r67 r68 r69 r70 r71 r72 r73 =>
                          bif (r66 == 2) then
                            g_match_ r32 r67 r68 r69 r70 r71 r72 r73 fun r74 r75 r76 r77 r78 r79 r80 r81 =>
                            bif (r74 == 0) then
                              g_awake fun r82 =>
                              k r82
                            else
                              k false
                          else
                            k false
                        else
                          k false
                      else
                        k false
                    else
                      k false
                  else
                    k false
                else
                  k false)

def latel_k (n : Nat) (a0 : (Int × (Int × (Int × ((Int × (Int × (Int × (Int × (Int × Unit))))) × Unit))))) (k : Bool → Option A) : Option A := latel_p (rright_k n) (awake_k n) (new__k n) (key_k n) (ask_k n) (tick_k n) (late_k n) (wake_k n) (ready_k n) (match__k n) n a0 k

noncomputable def latel_E (g_rright : Int → Int → (Bool → Option A) → Option A) (g_awake : (Bool → Option A) → Option A) (g_new_ : Int → Int → (Int → Option A) → (Int → Int → Int → (Int × ((List Int) × (Int × Unit))) → Int → Bool → (Int × (Int × (Int × (Bool × Unit)))) → (List ((Int × ((List Int) × (Int × Unit))) × Int)) → Option A) → Option A) (g_key : (Int × (Int × (Int × (Int × (Int × Unit))))) → ((Int × ((List Int) × (Int × Unit))) → Option A) → Option A) (g_ask : (Int × ((List Int) × (Int × Unit))) → Int → Int → Int → (Int × ((List Int) × (Int × Unit))) → Int → Bool → (Int × (Int × (Int × (Bool × Unit)))) → (List ((Int × ((List Int) × (Int × Unit))) × Int)) → (Int → Int → Int → (Int × ((List Int) × (Int × Unit))) → Int → Bool → (Int × (Int × (Int × (Bool × Unit)))) → (List ((Int × ((List Int) × (Int × Unit))) × Int)) → Option A) → Option A) (g_tick : Int → Int → Int → (Int × ((List Int) × (Int × Unit))) → Int → Bool → (Int × (Int × (Int × (Bool × Unit)))) → (List ((Int × ((List Int) × (Int × Unit))) × Int)) → ((Int × ((List Int) × (Int × Unit))) → Bool → Int → Int → (Int × ((List Int) × (Int × Unit))) → Int → Bool → (Int × (Int × (Int × (Bool × Unit)))) → (List ((Int × ((List Int) × (Int × Unit))) × Int)) → Option A) → Option A) (g_late : (Int × ((List Int) × (Int × Unit))) → Int → Int → (Int × ((List Int) × (Int × Unit))) → Int → Bool → (Int × (Int × (Int × (Bool × Unit)))) → (List ((Int × ((List Int) × (Int × Unit))) × Int)) → (Int → Int → Int → (Int × ((List Int) × (Int × Unit))) → Int → Bool → (Int × (Int × (Int × (Bool × Unit)))) → (List ((Int × ((List Int) × (Int × Unit))) × Int)) → Option A) → Option A) (g_wake : Int → Int → (Int × ((List Int) × (Int × Unit))) → Int → Bool → (Int × (Int × (Int × (Bool × Unit)))) → (List ((Int × ((List Int) × (Int × Unit))) × Int)) → (Int → Int → Int → (Int × ((List Int) × (Int × Unit))) → Int → Bool → (Int × (Int × (Int × (Bool × Unit)))) → (List ((Int × ((List Int) × (Int × Unit))) × Int)) → Option A) → Option A) (g_ready : Int → Int → Int → (Int × ((List Int) × (Int × Unit))) → Int → Bool → (Int × (Int × (Int × (Bool × Unit)))) → (List ((Int × ((List Int) × (Int × Unit))) × Int)) → (Bool → Int → Int → (Int × ((List Int) × (Int × Unit))) → Int → Bool → (Int × (Int × (Int × (Bool × Unit)))) → (List ((Int × ((List Int) × (Int × Unit))) × Int)) → Option A) → Option A) (g_match_ : (Int × ((List Int) × (Int × Unit))) → Int → Int → (Int × ((List Int) × (Int × Unit))) → Int → Bool → (Int × (Int × (Int × (Bool × Unit)))) → (List ((Int × ((List Int) × (Int × Unit))) × Int)) → (Int → Int → Int → (Int × ((List Int) × (Int × Unit))) → Int → Bool → (Int × (Int × (Int × (Bool × Unit)))) → (List ((Int × ((List Int) × (Int × Unit))) × Int)) → Option A) → Option A) (n : Nat) : Env A := ⟨tys, gls, [(10, rright_ent g_rright), (11, awake_ent g_awake), (12, new__ent g_new_), (15, key_ent g_key), (14, ask_ent g_ask), (16, tick_ent g_tick), (20, late_ent g_late), (21, wake_ent g_wake), (22, ready_ent g_ready), (17, match__ent g_match_)], [], []⟩
theorem latel_T (g_rright : Int → Int → (Bool → Option A) → Option A) (g_awake : (Bool → Option A) → Option A) (g_new_ : Int → Int → (Int → Option A) → (Int → Int → Int → (Int × ((List Int) × (Int × Unit))) → Int → Bool → (Int × (Int × (Int × (Bool × Unit)))) → (List ((Int × ((List Int) × (Int × Unit))) × Int)) → Option A) → Option A) (g_key : (Int × (Int × (Int × (Int × (Int × Unit))))) → ((Int × ((List Int) × (Int × Unit))) → Option A) → Option A) (g_ask : (Int × ((List Int) × (Int × Unit))) → Int → Int → Int → (Int × ((List Int) × (Int × Unit))) → Int → Bool → (Int × (Int × (Int × (Bool × Unit)))) → (List ((Int × ((List Int) × (Int × Unit))) × Int)) → (Int → Int → Int → (Int × ((List Int) × (Int × Unit))) → Int → Bool → (Int × (Int × (Int × (Bool × Unit)))) → (List ((Int × ((List Int) × (Int × Unit))) × Int)) → Option A) → Option A) (g_tick : Int → Int → Int → (Int × ((List Int) × (Int × Unit))) → Int → Bool → (Int × (Int × (Int × (Bool × Unit)))) → (List ((Int × ((List Int) × (Int × Unit))) × Int)) → ((Int × ((List Int) × (Int × Unit))) → Bool → Int → Int → (Int × ((List Int) × (Int × Unit))) → Int → Bool → (Int × (Int × (Int × (Bool × Unit)))) → (List ((Int × ((List Int) × (Int × Unit))) × Int)) → Option A) → Option A) (g_late : (Int × ((List Int) × (Int × Unit))) → Int → Int → (Int × ((List Int) × (Int × Unit))) → Int → Bool → (Int × (Int × (Int × (Bool × Unit)))) → (List ((Int × ((List Int) × (Int × Unit))) × Int)) → (Int → Int → Int → (Int × ((List Int) × (Int × Unit))) → Int → Bool → (Int × (Int × (Int × (Bool × Unit)))) → (List ((Int × ((List Int) × (Int × Unit))) × Int)) → Option A) → Option A) (g_wake : Int → Int → (Int × ((List Int) × (Int × Unit))) → Int → Bool → (Int × (Int × (Int × (Bool × Unit)))) → (List ((Int × ((List Int) × (Int × Unit))) × Int)) → (Int → Int → Int → (Int × ((List Int) × (Int × Unit))) → Int → Bool → (Int × (Int × (Int × (Bool × Unit)))) → (List ((Int × ((List Int) × (Int × Unit))) × Int)) → Option A) → Option A) (g_ready : Int → Int → Int → (Int × ((List Int) × (Int × Unit))) → Int → Bool → (Int × (Int × (Int × (Bool × Unit)))) → (List ((Int × ((List Int) × (Int × Unit))) × Int)) → (Bool → Int → Int → (Int × ((List Int) × (Int × Unit))) → Int → Bool → (Int × (Int × (Int × (Bool × Unit)))) → (List ((Int × ((List Int) × (Int × Unit))) × Int)) → Option A) → Option A) (g_match_ : (Int × ((List Int) × (Int × Unit))) → Int → Int → (Int × ((List Int) × (Int × Unit))) → Int → Bool → (Int × (Int × (Int × (Bool × Unit)))) → (List ((Int × ((List Int) × (Int × Unit))) × Int)) → (Int → Int → Int → (Int × ((List Int) × (Int × Unit))) → Int → Bool → (Int × (Int × (Int × (Bool × Unit)))) → (List ((Int × ((List Int) × (Int × Unit))) × Int)) → Option A) → Option A) (n : Nat) : TyOK Try.prog (latel_E g_rright g_awake g_new_ g_key g_ask g_tick g_late g_wake g_ready g_match_ n) := tyOK_of rfl tysB
theorem latel_fns (n : Nat) : FnsOK Try.prog (latel_E (A := A) (rright_k n) (awake_k n) (new__k n) (key_k n) (ask_k n) (tick_k n) (late_k n) (wake_k n) (ready_k n) (match__k n) n) := AllOK.env rfl rfl (AllOK.cons (rright_ok n) (AllOK.cons (awake_ok n) (AllOK.cons (new__ok n) (AllOK.cons (key_ok n) (AllOK.cons (ask_ok n) (AllOK.cons (tick_ok n) (AllOK.cons (late_ok n) (AllOK.cons (wake_ok n) (AllOK.cons (ready_ok n) (AllOK.cons (match__ok n) AllOK.nil))))))))))
theorem latel_eqg (g_rright : Int → Int → (Bool → Option A) → Option A) (g_awake : (Bool → Option A) → Option A) (g_new_ : Int → Int → (Int → Option A) → (Int → Int → Int → (Int × ((List Int) × (Int × Unit))) → Int → Bool → (Int × (Int × (Int × (Bool × Unit)))) → (List ((Int × ((List Int) × (Int × Unit))) × Int)) → Option A) → Option A) (g_key : (Int × (Int × (Int × (Int × (Int × Unit))))) → ((Int × ((List Int) × (Int × Unit))) → Option A) → Option A) (g_ask : (Int × ((List Int) × (Int × Unit))) → Int → Int → Int → (Int × ((List Int) × (Int × Unit))) → Int → Bool → (Int × (Int × (Int × (Bool × Unit)))) → (List ((Int × ((List Int) × (Int × Unit))) × Int)) → (Int → Int → Int → (Int × ((List Int) × (Int × Unit))) → Int → Bool → (Int × (Int × (Int × (Bool × Unit)))) → (List ((Int × ((List Int) × (Int × Unit))) × Int)) → Option A) → Option A) (g_tick : Int → Int → Int → (Int × ((List Int) × (Int × Unit))) → Int → Bool → (Int × (Int × (Int × (Bool × Unit)))) → (List ((Int × ((List Int) × (Int × Unit))) × Int)) → ((Int × ((List Int) × (Int × Unit))) → Bool → Int → Int → (Int × ((List Int) × (Int × Unit))) → Int → Bool → (Int × (Int × (Int × (Bool × Unit)))) → (List ((Int × ((List Int) × (Int × Unit))) × Int)) → Option A) → Option A) (g_late : (Int × ((List Int) × (Int × Unit))) → Int → Int → (Int × ((List Int) × (Int × Unit))) → Int → Bool → (Int × (Int × (Int × (Bool × Unit)))) → (List ((Int × ((List Int) × (Int × Unit))) × Int)) → (Int → Int → Int → (Int × ((List Int) × (Int × Unit))) → Int → Bool → (Int × (Int × (Int × (Bool × Unit)))) → (List ((Int × ((List Int) × (Int × Unit))) × Int)) → Option A) → Option A) (g_wake : Int → Int → (Int × ((List Int) × (Int × Unit))) → Int → Bool → (Int × (Int × (Int × (Bool × Unit)))) → (List ((Int × ((List Int) × (Int × Unit))) × Int)) → (Int → Int → Int → (Int × ((List Int) × (Int × Unit))) → Int → Bool → (Int × (Int × (Int × (Bool × Unit)))) → (List ((Int × ((List Int) × (Int × Unit))) × Int)) → Option A) → Option A) (g_ready : Int → Int → Int → (Int × ((List Int) × (Int × Unit))) → Int → Bool → (Int × (Int × (Int × (Bool × Unit)))) → (List ((Int × ((List Int) × (Int × Unit))) × Int)) → (Bool → Int → Int → (Int × ((List Int) × (Int × Unit))) → Int → Bool → (Int × (Int × (Int × (Bool × Unit)))) → (List ((Int × ((List Int) × (Int × Unit))) × Int)) → Option A) → Option A) (g_match_ : (Int × ((List Int) × (Int × Unit))) → Int → Int → (Int × ((List Int) × (Int × Unit))) → Int → Bool → (Int × (Int × (Int × (Bool × Unit)))) → (List ((Int × ((List Int) × (Int × Unit))) × Int)) → (Int → Int → Int → (Int × ((List Int) × (Int × Unit))) → Int → Bool → (Int × (Int × (Int × (Bool × Unit)))) → (List ((Int × ((List Int) × (Int × Unit))) × Int)) → Option A) → Option A) (n : Nat) (a0 : (Int × (Int × (Int × ((Int × (Int × (Int × (Int × (Int × Unit))))) × Unit))))) (k : AV → List Blk → Option A) : fnK (latel_E g_rright g_awake g_new_ g_key g_ask g_tick g_late g_wake g_ready g_match_ n) Try.f5 [.pure] [.p kT46 a0] [] k = latel_p g_rright g_awake g_new_ g_key g_ask g_tick g_late g_wake g_ready g_match_ n a0 (fun r0 => k (.p .bool r0) []) := by kernel_rfl
theorem latel_eq (n : Nat) (a0 : (Int × (Int × (Int × ((Int × (Int × (Int × (Int × (Int × Unit))))) × Unit))))) (k : AV → List Blk → Option A) : fnK (latel_E (rright_k n) (awake_k n) (new__k n) (key_k n) (ask_k n) (tick_k n) (late_k n) (wake_k n) (ready_k n) (match__k n) n) Try.f5 [.pure] [.p kT46 a0] [] k = latel_k n a0 (fun r0 => k (.p .bool r0) []) := latel_eqg (rright_k n) (awake_k n) (new__k n) (key_k n) (ask_k n) (tick_k n) (late_k n) (wake_k n) (ready_k n) (match__k n) n a0 k
def latel_ent (g : (Int × (Int × (Int × ((Int × (Int × (Int × (Int × (Int × Unit))))) × Unit)))) → (Bool → Option A) → Option A) : Entry A := pureE fun args k => args1 args kT46 fun a0 => g a0 (fun r0 => k (.p .bool r0) [])
theorem latel_lo (n : Nat) : ∀ c, Try.f5.body = some c → ∀ q ∈ loopsOf 0 c, ∀ L, (latel_E (A := A) (rright_k n) (awake_k n) (new__k n) (key_k n) (ask_k n) (tick_k n) (late_k n) (wake_k n) (ready_k n) (match__k n) n).lps.lookup q.1 = some L → LoopOK Try.prog gls q.2 L :=
  lo_body (E := latel_E (rright_k n) (awake_k n) (new__k n) (key_k n) (ask_k n) (tick_k n) (late_k n) (wake_k n) (ready_k n) (match__k n) n) (by kernel_rfl : Try.f5.body = some (bodyOf Try.f5)) (lo_of (E := latel_E (rright_k n) (awake_k n) (new__k n) (key_k n) (ask_k n) (tick_k n) (late_k n) (wake_k n) (ready_k n) (match__k n) n) (by kernel_rfl : loopsOf 0 (bodyOf Try.f5) = []) lo_nil)
theorem latel_ok (n : Nat) : FnOK Try.prog gls 5 (latel_ent (A := A) (latel_k n)) :=
  FnOK.of (latel_T (rright_k n) (awake_k n) (new__k n) (key_k n) (ask_k n) (tick_k n) (late_k n) (wake_k n) (ready_k n) (match__k n) n) (latel_fns n) follows ⟨Try.func5, by kernel_rfl⟩ (latel_lo n) (rm := [.pure]) fun args k out h => by
    obtain ⟨a0, e, h1⟩ := args1_sound h
    subst e; rw [latel_eq]; exact h1

end Go.Ev
end

