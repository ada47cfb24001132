import Derived.Test.YtbioclollbemeaaB5
import Derived.Test.YtbioclollbemeaaB7
import Derived.Test.YtbioclollbemeaaB6
set_option linter.all false
section
/-
  FUNCTION 39: printed by a program of our own (wip/gen/st.py). 'masthead/mastheadref24.Count', in continuation form; the evaluator gives it.
-/
set_option linter.all false
set_option maxRecDepth 100000
namespace Go.Ev
open Go.Proofs
variable {A : Type}

-- ============================================================ rcount (function 39)
def rcount_b0 (n : Nat) (p : (Int × (Int × (Bool × ((Int × ((List Int) × (Int × Unit))) × (Int × ((List (Int × ((List Int) × (Int × Unit)))) × (Int × (Int × (Int × (Bool × Unit))))))))))) (k_ : (Int × ((List Int) × (Int × Unit)))) (k0 : Int → Option A) (r : Int → Int → Option A) (n_ : Int) (i : Int) : Option A :=
  bif (decide (i < (p.2.2.2.2.2.1.length : Int))) then
    if 0 ≤ i then
      (p.2.2.2.2.2.1[(Int.toNat i)]?).bind fun y1 =>
      bif (deq kT38 y1 k_) then
        r (IntKind.wrap .i64 (n_ + 1)) (IntKind.wrap .i64 (i + 1))
      else
        r n_ (IntKind.wrap .i64 (i + 1))
    else none
  else
    k0 n_

def rcount_l0 (n : Nat) (p : (Int × (Int × (Bool × ((Int × ((List Int) × (Int × Unit))) × (Int × ((List (Int × ((List Int) × (Int × Unit)))) × (Int × (Int × (Int × (Bool × Unit))))))))))) (k_ : (Int × ((List Int) × (Int × Unit)))) (k0 : Int → Option A) : Nat → Int → Int → Option A
  | 0 => fun _ _ => none
  | f + 1 => rcount_b0 n p k_ k0 (rcount_l0 n p k_ k0 f)

def rcount_p (n : Nat) (a0 : (Int × (Int × (Bool × ((Int × ((List Int) × (Int × Unit))) × (Int × ((List (Int × ((List Int) × (Int × Unit)))) × (Int × (Int × (Int × (Bool × Unit))))))))))) (a1 : (Int × ((List Int) × (Int × Unit)))) (k : Int → Option A) : Option A :=
  rcount_l0 n a0 a1 (fun y2 =>
    k y2) n 0 0

def rcount_k (n : Nat) (a0 : (Int × (Int × (Bool × ((Int × ((List Int) × (Int × Unit))) × (Int × ((List (Int × ((List Int) × (Int × Unit)))) × (Int × (Int × (Int × (Bool × Unit))))))))))) (a1 : (Int × ((List Int) × (Int × Unit)))) (k : Int → Option A) : Option A := rcount_p n a0 a1 k

noncomputable def rcount_c0 : Code := codeAt [1, 1, 0, 1, 0, 0] (bodyOf Try.f39)
def rcount_d0 : List Nat := [0, 1, 4, 7, 8, 9, 10, 11, 12, 13, 14, 15, 16, 17, 18, 19, 20, 21, 22]
def rcount_y0 : List Nat := [0, 1, 2, 3, 4, 6, 7, 8, 9, 10, 11, 12, 13, 14, 15, 16, 17, 18, 19, 20, 21, 22, 23]
def rcount_sh0 : Shape := ⟨[.any, .any, (.ptr 0), (.ptr 1), .any, (.p (.int .i64)), (.p (.int .i64)), .any, .any, .any, .any, .any, .any, .any, .any, .any, .any, .any, .any, .any, .any, .any, .any, .any], [(.var 54 kT53 (.p kT53)), (.var 51 kT38 (.p kT38))], 0⟩
def rcount_x0_0 (p : (Int × (Int × (Bool × ((Int × ((List Int) × (Int × Unit))) × (Int × ((List (Int × ((List Int) × (Int × Unit)))) × (Int × (Int × (Int × (Bool × Unit))))))))))) (k_ : (Int × ((List Int) × (Int × Unit)))) (z0 : Int) : St := ⟨[.any, .any, .any, .any, .any, .p (.int .i64) z0, .any, .any, .any, .any, .any, .any, .any, .any, .any, .any, .any, .any, .any, .any, .any, .any, .any, .any], [], 0⟩
def rcount_g0 (n : Nat) (d : rcount_sh0.den) (k : Ex → St → Option A) : Option A :=
  rcount_l0 n d.2.1 d.2.2.1 (fun z0 => k (.exit 0) (rcount_x0_0 d.2.1 d.2.2.1 z0)) n d.1.2.2.2.2.2.1 d.1.2.2.2.2.2.2.1
noncomputable def rcount_E (n : Nat) : Env A := ⟨tys, gls, [], [(0, loopE rcount_d0 rcount_sh0 (rcount_g0 n))], []⟩
theorem rcount_T {A : Type} (n : Nat) : TyOK Try.prog (rcount_E (A := A) n) := tyOK_of rfl tysB
theorem rcount_fns (n : Nat) : FnsOK Try.prog (rcount_E (A := A) n) := AllOK.env rfl rfl AllOK.nil
noncomputable def rcount_LK0 (n : Nat) (p : (Int × (Int × (Bool × ((Int × ((List Int) × (Int × Unit))) × (Int × ((List (Int × ((List Int) × (Int × Unit)))) × (Int × (Int × (Int × (Bool × Unit))))))))))) (k_ : (Int × ((List Int) × (Int × Unit)))) (k : Ex → St → Option A) (f : Nat) (n_ : Int) (i : Int) : Option A := loopK (codeK (rcount_E n) 1 rcount_c0) rcount_d0 rcount_y0 f (⟨[.any, .any, .ptr 0 [], .ptr 1 [], .any, .p (.int .i64) n_, .p (.int .i64) i, .any, .any, .any, .any, .any, .any, .any, .any, .any, .any, .any, .any, .any, .any, .any, .any, .any], [.var 54 kT53 (.p kT53 p), .var 51 kT38 (.p kT38 k_)], 0⟩) k
theorem rcount_st0 (n f : Nat) (p : (Int × (Int × (Bool × ((Int × ((List Int) × (Int × Unit))) × (Int × ((List (Int × ((List Int) × (Int × Unit)))) × (Int × (Int × (Int × (Bool × Unit))))))))))) (k_ : (Int × ((List Int) × (Int × Unit)))) (k : Ex → St → Option A) (n_ : Int) (i : Int) : rcount_LK0 n p k_ k (f + 1) n_ i = rcount_b0 n p k_ (fun z0 => k (.exit 0) (rcount_x0_0 p k_ z0)) (rcount_LK0 n p k_ k f) n_ i := by kernel_rfl
theorem rcount_le0 (n : Nat) (p : (Int × (Int × (Bool × ((Int × ((List Int) × (Int × Unit))) × (Int × ((List (Int × ((List Int) × (Int × Unit)))) × (Int × (Int × (Int × (Bool × Unit))))))))))) (k_ : (Int × ((List Int) × (Int × Unit)))) (k : Ex → St → Option A) : ∀ (f : Nat) (n_ : Int) (i : Int), rcount_LK0 n p k_ k f n_ i = rcount_l0 n p k_ (fun z0 => k (.exit 0) (rcount_x0_0 p k_ z0)) f n_ i := by
  intro f
  induction f with
  | zero => intros; kernel_rfl
  | succ f ih => intro n_ i; exact (rcount_st0 n f p k_ k n_ i).trans ((congrArg (fun r => rcount_b0 n p k_ (fun z0 => k (.exit 0) (rcount_x0_0 p k_ z0)) r n_ i) (funext fun n_ => funext fun i => ih n_ i)).trans (by kernel_rfl))
theorem rcount_lo0 (n : Nat) : LoopOK Try.prog gls rcount_c0 (loopE rcount_d0 rcount_sh0 (rcount_g0 (A := A) n)) :=
  LoopOK.of (rcount_T n) (rcount_fns n) follows (j := 1) (n := n) (xdead := rcount_y0) (lo_of (by kernel_rfl : loopsOf 1 rcount_c0 = []) lo_nil) fun d k => Eq.trans (by kernel_rfl) (rcount_le0 n d.2.1 d.2.2.1 k n d.1.2.2.2.2.2.1 d.1.2.2.2.2.2.2.1)
theorem rcount_eqg (n : Nat) (a0 : (Int × (Int × (Bool × ((Int × ((List Int) × (Int × Unit))) × (Int × ((List (Int × ((List Int) × (Int × Unit)))) × (Int × (Int × (Int × (Bool × Unit))))))))))) (a1 : (Int × ((List Int) × (Int × Unit)))) (k : AV → List Blk → Option A) : fnK (rcount_E n) Try.f39 [.pure] [.p kT53 a0, .p kT38 a1] [] k = rcount_p n a0 a1 (fun r0 => k (.p (.int .i64) r0) []) := by kernel_rfl
theorem rcount_eq (n : Nat) (a0 : (Int × (Int × (Bool × ((Int × ((List Int) × (Int × Unit))) × (Int × ((List (Int × ((List Int) × (Int × Unit)))) × (Int × (Int × (Int × (Bool × Unit))))))))))) (a1 : (Int × ((List Int) × (Int × Unit)))) (k : AV → List Blk → Option A) : fnK (rcount_E n) Try.f39 [.pure] [.p kT53 a0, .p kT38 a1] [] k = rcount_k n a0 a1 (fun r0 => k (.p (.int .i64) r0) []) := rcount_eqg n a0 a1 k
def rcount_ent (g : (Int × (Int × (Bool × ((Int × ((List Int) × (Int × Unit))) × (Int × ((List (Int × ((List Int) × (Int × Unit)))) × (Int × (Int × (Int × (Bool × Unit)))))))))) → (Int × ((List Int) × (Int × Unit))) → (Int → Option A) → Option A) : Entry A := pureE fun args k => args2 args kT53 kT38 fun a0 a1 => g a0 a1 (fun r0 => k (.p (.int .i64) r0) [])
theorem rcount_lo (n : Nat) : ∀ c, Try.f39.body = some c → ∀ q ∈ loopsOf 0 c, ∀ L, (rcount_E (A := A) n).lps.lookup q.1 = some L → LoopOK Try.prog gls q.2 L :=
  lo_body (E := rcount_E n) (by kernel_rfl : Try.f39.body = some (bodyOf Try.f39)) (lo_of (E := rcount_E n) (by kernel_rfl : loopsOf 0 (bodyOf Try.f39) = [(0, rcount_c0)]) (lo_cons rfl (rcount_lo0 n) lo_nil))
theorem rcount_ok (n : Nat) : FnOK Try.prog gls 39 (rcount_ent (A := A) (rcount_k n)) :=
  FnOK.of (rcount_T n) (rcount_fns n) follows ⟨Try.func39, by kernel_rfl⟩ (rcount_lo n) (rm := [.pure]) fun args k out h => by
    obtain ⟨a0, a1, e, h1⟩ := args2_sound h
    subst e; rw [rcount_eq]; exact h1

end Go.Ev
end

section
/-
  PEER: a call of both, of the program's peer and of the document's.
-/
set_option linter.all false
namespace Go.Ev
variable {A : Type}

abbrev PK := kT38.den
abbrev PM := List (PK × Int)
abbrev R4 := Int × (Int × (Int × (Bool × Unit)))
def zk : PK := (0, (List.replicate 32 (0 : Int), (0, ())))
/-- How often a key is among some. -/
def lc (L : List PK) (k : PK) : Nat := (L.filter fun y => deq kT38 y k).length
def XX (b m : Int) (wt : Bool) (key : PK) (dl : Int) (L : List PK) (r : R4) : kT53.den := (b, (m, (wt, (key, (dl, (L, r))))))

structure Sim (mp : PM) (L : List PK) : Prop where
  u : Uniq (K := kT38) mp
  c : ∀ k, cnt kT38 mp k = (lc L k : Int)

theorem lc_nil (k : PK) : lc [] k = 0 := rfl
theorem lc_append (L M : List PK) (k : PK) : lc (L ++ M) k = lc L k + lc M k := by unfold lc; rw [List.filter_append, List.length_append]
theorem lc_one_self (k : PK) : lc [k] k = 1 := by
  have h : deq kT38 k k = true := deq_self _ _
  unfold lc; rw [List.filter_cons_of_pos (p := fun y => deq kT38 y k) h]; rfl
theorem lc_one_ne {x k : PK} (h : x ≠ k) : lc [x] k = 0 := by
  have h : ¬ deq kT38 x k = true := by rw [deq_false h]; simp
  unfold lc; rw [List.filter_cons_of_neg (p := fun y => deq kT38 y k) h]; rfl
theorem lc_le (L : List PK) (k : PK) : lc L k ≤ L.length := List.length_filter_le _ _
theorem lc_cut {L : List PK} {q : Nat} {x : PK} (h : L[q]? = some x) (k : PK) : lc L k = lc (L.take q ++ L.drop (q + 1)) k + lc [x] k := by
  obtain ⟨hq, hx⟩ := List.getElem?_eq_some_iff.1 h
  have e : L = L.take q ++ ([x] ++ L.drop (q + 1)) := by
    conv => lhs; rw [← List.take_append_drop q L, List.drop_eq_getElem_cons hq, hx]
    rfl
  conv => lhs; rw [e]
  rw [lc_append, lc_append, lc_append]; omega

theorem Sim.nil : Sim [] [] := ⟨.nil, fun k => rfl⟩

theorem cnt_def {K : Kind} (m : List (K.den × Int)) (x : K.den) : (mget K m x).getD 0 = cnt K m x := rfl
theorem wrap_le (x : Int) : IntKind.wrap .i64 x ≤ 9223372036854775807 := by rw [wrap_i64]; split <;> omega

-- ------------------------------------------------------------ the document's late ones

theorem rcount_l0_law (n : Nat) (p : kT53.den) (kk : PK) (L : List PK) (hp : p.2.2.2.2.2.1 = L) (hL : L.length < 100000) (k0 : Int → Option A) : ∀ (d f i : Nat), i + d = L.length → d < f →
    rcount_l0 n p kk k0 f ((lc (L.take i) kk : Nat) : Int) (i : Int) = k0 ((lc L kk : Nat) : Int) := by
  intro d
  induction d with
  | zero =>
    intro f i hi hf
    obtain ⟨f, rfl⟩ : ∃ g, f = g + 1 := ⟨f - 1, by omega⟩
    rw [rcount_l0, rcount_b0, hp, decide_eq_false (by omega), cond_false, List.take_of_length_le (by omega)]
  | succ d ih =>
    intro f i hi hf
    obtain ⟨f, rfl⟩ : ∃ g, f = g + 1 := ⟨f - 1, by omega⟩
    have hlt : i < L.length := by omega
    have hle := lc_le (L.take i) kk
    rw [List.length_take] at hle
    have e1 : IntKind.wrap .i64 ((i : Int) + 1) = ((i + 1 : Nat) : Int) := by rw [wrap_id (by omega) (by omega)]; omega
    have e2 : L.take (i + 1) = L.take i ++ [L[i]] := List.take_succ_eq_append_getElem hlt
    have e3 : IntKind.wrap .i64 ((lc (L.take i) kk : Int) + 1) = ((lc (L.take i) kk + 1 : Nat) : Int) := by rw [wrap_id (by omega) (by omega)]; omega
    have ih' := ih f (i + 1) (by omega) (by omega)
    rw [e2, lc_append] at ih'
    rw [rcount_l0, rcount_b0, hp, decide_eq_true (by omega), cond_true, if_pos (by omega), Int.toNat_natCast, List.getElem?_eq_getElem hlt, Option.bind_some, e1]
    by_cases h : L[i] = kk
    · rw [h, lc_one_self] at ih'
      rw [h, deq_self, cond_true, e3]
      exact ih'
    · rw [lc_one_ne h, Nat.add_zero] at ih'
      rw [deq_false h, cond_false]
      exact ih'

theorem rcount_law (n : Nat) (hn : 1000 ≤ n) (b m : Int) (wt : Bool) (key : PK) (dl : Int) (L : List PK) (r : R4) (kk : PK) (hL : L.length < 900) (g : Int → Option A) : rcount_k n (XX b m wt key dl L r) kk g = g ((lc L kk : Nat) : Int) := by
  unfold rcount_k rcount_p
  exact rcount_l0_law n (XX b m wt key dl L r) kk L rfl (by omega) (fun y2 => g y2) L.length n 0 (by omega) (by omega)

theorem rmatch_l0_law (n : Nat) (G : kT53.den → (kT53.den → Option A) → Option A) (p : kT53.den) (kk : PK) (t4 : kT53.den) (L : List PK) (hp : p.2.2.2.2.2.1 = L) (hL : L.length < 100000) : ∀ (d f i : Nat), i + d = L.length → d < f →
    (lc (L.drop i) kk = 0 ∧ ∀ (k0 : List PK → Option A) (k1 : Option A), rmatch_l0 G n p kk t4 k0 k1 f (i : Int) = k1) ∨ (0 < lc (L.drop i) kk ∧ ∃ q, L[q]? = some kk ∧ ∀ (k0 : List PK → Option A) (k1 : Option A), rmatch_l0 G n p kk t4 k0 k1 f (i : Int) = k0 (L.take q ++ L.drop (q + 1))) := by
  intro d
  induction d with
  | zero =>
    intro f i hi hf
    obtain ⟨f, rfl⟩ : ∃ g, f = g + 1 := ⟨f - 1, by omega⟩
    left
    refine ⟨by rw [List.drop_eq_nil_of_le (by omega)]; rfl, fun k0 k1 => ?_⟩
    rw [rmatch_l0, rmatch_b0, hp, decide_eq_false (by omega), cond_false]
  | succ d ih =>
    intro f i hi hf
    obtain ⟨f, rfl⟩ : ∃ g, f = g + 1 := ⟨f - 1, by omega⟩
    have hlt : i < L.length := by omega
    have e1 : IntKind.wrap .i64 ((i : Int) + 1) = ((i + 1 : Nat) : Int) := by rw [wrap_id (by omega) (by omega)]; omega
    have e2 : L.drop i = [L[i]] ++ L.drop (i + 1) := List.drop_eq_getElem_cons hlt
    have ih' := ih f (i + 1) (by omega) (by omega)
    rw [e2, lc_append]
    have step : ∀ (k0 : List PK → Option A) (k1 : Option A), rmatch_l0 G n p kk t4 k0 k1 (f + 1) (i : Int) = rmatch_b0 G n p kk t4 k0 k1 (rmatch_l0 G n p kk t4 k0 k1 f) (i : Int) := fun _ _ => by rw [rmatch_l0]
    by_cases h : L[i] = kk
    · right
      rw [h, lc_one_self]
      refine ⟨by omega, i, by rw [List.getElem?_eq_getElem hlt, h], fun k0 k1 => ?_⟩
      have e3 : (L.drop (i + 1)).take (L.length - (i + 1)) = L.drop (i + 1) := List.take_of_length_le (by rw [List.length_drop]; omega)
      rw [step, rmatch_b0, hp, decide_eq_true (by omega), cond_true, if_pos (by omega), Int.toNat_natCast, List.getElem?_eq_getElem hlt, Option.bind_some, e1, h]
      rw [deq_self, cond_true, if_pos (by omega), if_pos (by omega), List.drop_zero, Nat.sub_zero, if_pos (by rw [List.length_take]; omega), if_pos (by omega), if_pos (by omega), Int.toNat_natCast, e3, if_pos (by rw [List.length_take, List.length_drop]; omega)]
    · have go : ∀ (k0 : List PK → Option A) (k1 : Option A), rmatch_l0 G n p kk t4 k0 k1 (f + 1) (i : Int) = rmatch_l0 G n p kk t4 k0 k1 f ((i + 1 : Nat) : Int) := fun k0 k1 => by
        rw [step, rmatch_b0, hp, decide_eq_true (by omega), cond_true, if_pos (by omega), Int.toNat_natCast, List.getElem?_eq_getElem hlt, Option.bind_some, e1, deq_false h, cond_false]
      rw [lc_one_ne h, Nat.zero_add]
      rcases ih' with ⟨h1, h2⟩ | ⟨h1, q, h2, h3⟩
      · exact .inl ⟨h1, fun k0 k1 => (go k0 k1).trans (h2 k0 k1)⟩
      · exact .inr ⟨h1, q, h2, fun k0 k1 => (go k0 k1).trans (h3 k0 k1)⟩

-- ------------------------------------------------------------ single calls

theorem fail_law (n : Nat) (hn : 30 < n) (b m : Int) (hR : Rt b m) (now : Int) (key : PK) (dl : Int) (wt : Bool) (r : R4) (mp : PM) (g : Int → Int → PK → Int → Bool → R4 → PM → Option A) :
    fail_k n now b m key dl wt r mp g = g b m key dl wt (IntKind.wrap .i64 (r.1 + 1), (IntKind.wrap .i64 (now + DD b m (IntKind.wrap .i64 (r.1 + 1))), r.2.2)) mp := by
  unfold fail_k fail_p
  rw [delay_law n hn b m _ hR (wrap_le _)]
theorem rfail_law (n : Nat) (hn : 30 < n) (b m : Int) (hR : Rt b m) (now : Int) (key : PK) (dl : Int) (wt : Bool) (r : R4) (L : List PK) (g : kT53.den → Option A) :
    rfail_k n (XX b m wt key dl L r) now g = g (XX b m wt key dl L (IntKind.wrap .i64 (r.1 + 1), (IntKind.wrap .i64 (now + DD b m (IntKind.wrap .i64 (r.1 + 1))), r.2.2))) := by
  unfold rfail_k rfail_p XX
  dsimp only
  rw [rdelay_law n hn b m _ hR (wrap_le _)]

theorem ready_law (n : Nat) (now b m : Int) (key : PK) (dl : Int) (wt : Bool) (r : R4) (mp : PM) (g : Bool → Int → Int → PK → Int → Bool → R4 → PM → Option A) :
    ready_k n now b m key dl wt r mp g = g (!r.2.2.2.1 && (!wt && decide (now ≥ r.2.1))) b m key dl wt r mp := by
  unfold ready_k ready_p
  cases r.2.2.2.1 <;> cases wt <;> rfl
theorem rready_law (n : Nat) (now b m : Int) (key : PK) (dl : Int) (wt : Bool) (r : R4) (L : List PK) (g : Bool → Option A) :
    rready_k n (XX b m wt key dl L r) now g = g (!r.2.2.2.1 && (!wt && decide (now ≥ r.2.1))) := by
  unfold rready_k rready_p XX
  dsimp only
  cases r.2.2.2.1 <;> cases wt <;> rfl

/-- Asked: both. -/
theorem ask_both (n : Nat) (now b m : Int) (kk key : PK) (dl : Int) (wt : Bool) (r : R4) (mp : PM) (L : List PK) : ∃ e key' dl' wt', (∀ h : kT53.den → Int → Option A, rask_k n (XX b m wt key dl L r) kk now h = h (XX b m wt' key' dl' L r) e) ∧
    (∀ g : Int → Int → Int → PK → Int → Bool → R4 → PM → Option A, ask_k n kk now b m key dl wt r mp g = g e b m key' dl' wt' r mp) ∧ (r.2.2.2.1 = true → wt' = wt) ∧
    (e = 0 → wt = false ∧ key' = kk ∧ dl' = IntKind.wrap .i64 (now + b) ∧ wt' = true) ∧ (e ≠ 0 → key' = key ∧ dl' = dl ∧ wt' = wt) ∧
    (0 ≤ now → now ≤ 1099511627776 → (!r.2.2.2.1 && (!wt && decide (now ≥ r.2.1))) = true → e = 0) := by
  by_cases h1 : now < 0
  · refine ⟨5, key, dl, wt, fun h => ?_, fun g => ?_, fun _ => rfl, fun h => by omega, fun _ => ⟨rfl, rfl, rfl⟩, fun h => by omega⟩
    · unfold rask_k rask_p; rw [decide_eq_true h1, cond_true]
    · unfold ask_k ask_p; rw [decide_eq_true h1, cond_true]
  · by_cases h2 : now > 1099511627776
    · refine ⟨5, key, dl, wt, fun h => ?_, fun g => ?_, fun _ => rfl, fun h => by omega, fun _ => ⟨rfl, rfl, rfl⟩, fun _ h => by omega⟩
      · unfold rask_k rask_p; rw [decide_eq_false h1, cond_false, decide_eq_true h2, cond_true]
      · unfold ask_k ask_p; rw [decide_eq_false h1, cond_false, decide_eq_true h2, cond_true]
    · cases h3 : (!r.2.2.2.1 && (!wt && decide (now ≥ r.2.1))) with
      | false =>
        refine ⟨16, key, dl, wt, fun h => ?_, fun g => ?_, fun _ => rfl, fun h => by omega, fun _ => ⟨rfl, rfl, rfl⟩, fun _ _ h => by cases h⟩
        · unfold rask_k rask_p; rw [decide_eq_false h1, cond_false, decide_eq_false h2, cond_false, rready_law, h3]; rfl
        · unfold ask_k ask_p; rw [decide_eq_false h1, cond_false, decide_eq_false h2, cond_false, ready_law, h3]; rfl
      | true =>
        refine ⟨0, kk, IntKind.wrap .i64 (now + b), true, fun h => ?_, fun g => ?_, fun hb => ?_, fun _ => ⟨?_, rfl, rfl, rfl⟩, fun h => absurd rfl h, fun _ _ _ => rfl⟩
        · unfold rask_k rask_p; rw [decide_eq_false h1, cond_false, decide_eq_false h2, cond_false, rready_law, h3]; rfl
        · unfold ask_k ask_p; rw [decide_eq_false h1, cond_false, decide_eq_false h2, cond_false, ready_law, h3]; rfl
        · rw [hb] at h3; cases h3
        · cases wt with
          | false => rfl
          | true => cases hb : r.2.2.2.1 <;> rw [hb] at h3 <;> cases h3

/-- Time passes: both. -/
theorem tick_both (n : Nat) (hn : 30 < n) (now b m : Int) (hR : Rt b m) (key : PK) (dl : Int) (wt : Bool) (r : R4) (mp : PM) (L : List PK) (hs : Sim mp L) (hL : L.length < 900) :
    ∃ kk ok key' dl' wt' r' mp' L', (∀ h : kT53.den → PK → Bool → Option A, rtick_k n (XX b m wt key dl L r) now h = h (XX b m wt' key' dl' L' r') kk ok) ∧
    (∀ g : PK → Bool → Int → Int → PK → Int → Bool → R4 → PM → Option A, tick_k n now b m key dl wt r mp g = g kk ok b m key' dl' wt' r' mp') ∧ Sim mp' L' ∧ L'.length ≤ L.length + 1 ∧ r'.2.2 = r.2.2 ∧ (wt = false → wt' = false ∧ L' = L) ∧
    ((ok = false ∧ key' = key ∧ wt' = wt ∧ L' = L ∧ dl' = dl ∧ r' = r ∧ (wt = false ∨ now < dl)) ∨ (ok = true ∧ wt = true ∧ ¬ now < dl ∧ wt' = false ∧ L' = L ++ [key] ∧ kk = key ∧ r'.2.1 = IntKind.wrap .i64 (now + DD b m (IntKind.wrap .i64 (r.1 + 1))))) := by
  cases wt with
  | false =>
    refine ⟨zk, false, key, dl, false, r, mp, L, fun h => ?_, fun g => ?_, hs, by omega, rfl, fun _ => ⟨rfl, rfl⟩, .inl ⟨rfl, rfl, rfl, rfl, rfl, rfl, .inl rfl⟩⟩
    · unfold rtick_k rtick_p XX; dsimp only; rw [Bool.not_false, cond_true]; rfl
    · unfold tick_k tick_p; rw [Bool.not_false, cond_true]; rfl
  | true =>
    by_cases h1 : now < dl
    · refine ⟨zk, false, key, dl, true, r, mp, L, fun h => ?_, fun g => ?_, hs, by omega, rfl, (fun h => by cases h), .inl ⟨rfl, rfl, rfl, rfl, rfl, rfl, .inr h1⟩⟩
      · unfold rtick_k rtick_p XX; dsimp only; rw [Bool.not_true, cond_false, decide_eq_true h1, cond_true]; rfl
      · unfold tick_k tick_p; rw [Bool.not_true, cond_false, decide_eq_true h1, cond_true]; rfl
    · have hc := hs.c key
      have hle := lc_le L key
      refine ⟨key, true, zk, 0, false, (IntKind.wrap .i64 (r.1 + 1), (IntKind.wrap .i64 (now + DD b m (IntKind.wrap .i64 (r.1 + 1))), r.2.2)), mset kT38 mp key ((lc L key + 1 : Nat) : Int), L ++ [key], fun h => ?_, fun g => ?_, ⟨hs.u.mset _ _, fun k => ?_⟩, by simp, ?_, (fun h => by cases h), .inr ⟨rfl, rfl, h1, rfl, rfl, rfl, ?_⟩⟩
      · unfold rtick_k rtick_p
        rw [show (XX b m true key dl L r).2.2.1 = true from rfl, Bool.not_true, cond_false, show (XX b m true key dl L r).2.2.2.2.1 = dl from rfl, decide_eq_false h1, cond_false, show (XX b m true key dl L r).2.2.2.2.2.1 = L from rfl, if_pos (by omega), if_pos (by omega)]
        exact rfail_law n hn b m hR now zk 0 false r (L ++ [key]) (fun r2 => h r2 key true)
      · unfold tick_k tick_p
        rw [Bool.not_true, cond_false, decide_eq_false h1, cond_false, cnt_def, hc, mset_mset]
        have e : IntKind.wrap .i64 ((lc L key : Int) + 1) = ((lc L key + 1 : Nat) : Int) := by rw [wrap_id (by omega) (by omega)]; omega
        rw [e]
        exact fail_law n hn b m hR now zk 0 false r _ (fun r8 r9 r10 r11 r12 r13 r14 => g key true r8 r9 r10 r11 r12 r13 r14)
      · rw [lc_append]
        by_cases hk : key = k
        · subst hk; rw [cnt_mset_self, lc_one_self]
        · rw [cnt_mset_ne _ _ hk, lc_one_ne hk, hs.c k]; rfl
      · rfl
      · rfl

/-- What came: both. -/
theorem match_both (n : Nat) (hn : 1000 ≤ n) (b m : Int) (kk key : PK) (dl : Int) (wt : Bool) (r : R4) (mp : PM) (L : List PK) (hs : Sim mp L) (hL : L.length < 900) :
    ∃ e key' dl' wt' r' mp' L', (∀ h : kT53.den → Int → Option A, rmatch_k n (XX b m wt key dl L r) kk h = h (XX b m wt' key' dl' L' r') e) ∧
    (∀ g : Int → Int → Int → PK → Int → Bool → R4 → PM → Option A, match__k n kk b m key dl wt r mp g = g e b m key' dl' wt' r' mp') ∧ Sim mp' L' ∧ L'.length ≤ L.length ∧ r'.2 = r.2 ∧ (wt = false → wt' = false) ∧
    ((e = 1 ∧ wt = true ∧ key = kk ∧ wt' = false ∧ L' = L) ∨ (e = 2 ∧ (wt = true → key ≠ kk) ∧ wt' = wt ∧ key' = key ∧ ∃ q, L[q]? = some kk ∧ L' = L.take q ++ L.drop (q + 1)) ∨ (e = 0 ∧ (wt = true → key ≠ kk) ∧ wt' = wt ∧ key' = key ∧ lc L kk = 0 ∧ L' = L)) := by
  by_cases h0 : wt = true ∧ key = kk
  · obtain ⟨rfl, rfl⟩ := h0
    refine ⟨1, zk, 0, false, (0, r.2), mp, L, fun h => ?_, fun g => ?_, hs, Nat.le_refl _, rfl, (fun h => by cases h), .inl ⟨rfl, rfl, rfl, rfl, rfl⟩⟩
    · unfold rmatch_k rmatch_p
      rw [show (XX b m true key dl L r).2.2.1 = true from rfl, cond_true, show (XX b m true key dl L r).2.2.2.1 = key from rfl, deq_self, cond_true]
      rfl
    · unfold match__k match__p
      rw [cond_true, deq_self, cond_true]
      rfl
  · have hne : wt = true → key ≠ kk := fun h e => h0 ⟨h, e⟩
    have hc := hs.c kk
    have hle := lc_le L kk
    -- the document's
    have doc : ∀ h : kT53.den → Int → Option A, rmatch_k n (XX b m wt key dl L r) kk h = rmatch_l0 (rrest_k n) n (XX b m wt key dl L r) kk (0, (0, (false, (zk, (0, ([], (0, (0, (0, (false, ())))))))))) (fun y3 => h (XX b m wt key dl y3 r) 2) (h (XX b m wt key dl L r) 0) n 0 := fun h => by
      unfold rmatch_k rmatch_p
      cases wt with
      | false => rfl
      | true =>
        rw [show (XX b m true key dl L r).2.2.1 = true from rfl, cond_true, show (XX b m true key dl L r).2.2.2.1 = key from rfl, deq_false (hne rfl), cond_false]
        rfl
    -- the program's
    have prog : ∀ g : Int → Int → Int → PK → Int → Bool → R4 → PM → Option A, match__k n kk b m key dl wt r mp g =
        bif (cnt kT38 mp kk == 0) then g 0 b m key dl wt r mp else
        bif (cnt kT38 (mset kT38 mp kk (IntKind.wrap .i64 (cnt kT38 mp kk - 1))) kk == 0) then g 2 b m key dl wt r (mdel kT38 (mset kT38 mp kk (IntKind.wrap .i64 (cnt kT38 mp kk - 1))) kk)
        else g 2 b m key dl wt r (mset kT38 mp kk (IntKind.wrap .i64 (cnt kT38 mp kk - 1))) := fun g => by
      unfold match__k match__p
      cases wt with
      | false => rw [cond_false, mset_mset]; rfl
      | true => rw [cond_true, deq_false (hne rfl), cond_false, mset_mset]; rfl
    have LAW := rmatch_l0_law (A := A) n (rrest_k n) (XX b m wt key dl L r) kk (0, (0, (false, (zk, (0, ([], (0, (0, (0, (false, ())))))))))) L rfl (by omega) L.length n 0 (by omega) (by omega)
    rw [List.drop_zero] at LAW
    rcases LAW with ⟨hz, hdoc⟩ | ⟨hz, q, hq, hdoc⟩
    · refine ⟨0, key, dl, wt, r, mp, L, fun h => (doc h).trans (hdoc _ _), fun g => ?_, hs, Nat.le_refl _, rfl, fun h => h, .inr (.inr ⟨rfl, hne, rfl, rfl, hz, rfl⟩)⟩
      rw [prog, hc, hz]; rfl
    · have hcut := lc_cut hq
      have hlen : (L.take q ++ L.drop (q + 1)).length ≤ L.length := by
        rw [List.length_append, List.length_take, List.length_drop]
        have := (List.getElem?_eq_some_iff.1 hq).1; omega
      have e : IntKind.wrap .i64 ((lc L kk : Int) - 1) = ((lc L kk - 1 : Nat) : Int) := by rw [wrap_id (by omega) (by omega)]; omega
      have hk1 := hcut kk
      rw [lc_one_self] at hk1
      have hz0 : (((lc L kk : Nat) : Int) == 0) = false := by rw [beq_eq_false_iff_ne]; omega
      by_cases h1 : lc L kk = 1
      · refine ⟨2, key, dl, wt, r, mdel kT38 (mset kT38 mp kk ((lc L kk - 1 : Nat) : Int)) kk, L.take q ++ L.drop (q + 1), fun h => (doc h).trans (hdoc _ _), fun g => ?_, ⟨(hs.u.mset _ _).mdel _, fun k => ?_⟩, hlen, rfl, fun h => h, .inr (.inl ⟨rfl, hne, rfl, rfl, q, hq, rfl⟩)⟩
        · rw [prog, hc, hz0, cond_false, e, cnt_mset_self, show (((lc L kk - 1 : Nat) : Int) == 0) = true from by rw [h1]; rfl, cond_true]
        · by_cases hk : kk = k
          · subst hk; rw [cnt_mdel_self _ (hs.u.mset _ _)]; omega
          · have := hcut k
            rw [lc_one_ne hk] at this
            rw [cnt_mdel_ne _ hk, cnt_mset_ne _ _ hk, hs.c k]; omega
      · refine ⟨2, key, dl, wt, r, mset kT38 mp kk ((lc L kk - 1 : Nat) : Int), L.take q ++ L.drop (q + 1), fun h => (doc h).trans (hdoc _ _), fun g => ?_, ⟨hs.u.mset _ _, fun k => ?_⟩, hlen, rfl, fun h => h, .inr (.inl ⟨rfl, hne, rfl, rfl, q, hq, rfl⟩)⟩
        · rw [prog, hc, hz0, cond_false, e, cnt_mset_self, show (((lc L kk - 1 : Nat) : Int) == 0) = false from by rw [beq_eq_false_iff_ne]; omega, cond_false]
        · by_cases hk : kk = k
          · subst hk; rw [cnt_mset_self]; omega
          · have := hcut k
            rw [lc_one_ne hk] at this
            rw [cnt_mset_ne _ _ hk, hs.c k]; omega

/-- The score behind a misbehaviour. -/
def sco (s N : Int) : Int := imin (s + imin (imax N 0) 1073741824) 1073741824

theorem blame_both (n : Nat) (b m N : Int) (key : PK) (dl : Int) (wt : Bool) (r : R4) (mp : PM) (L : List PK) (hs : Sim mp L) (hsc : 0 ≤ r.2.2.1 ∧ r.2.2.1 ≤ 1073741824) :
    ∃ e key' dl' wt' r' mp' L', (∀ h : kT53.den → Bool → Option A, rblame_k n (XX b m wt key dl L r) N h = h (XX b m wt' key' dl' L' r') e) ∧
    (∀ g : Bool → Int → Int → PK → Int → Bool → R4 → PM → Option A, blame_k n N b m key dl wt r mp g = g e b m key' dl' wt' r' mp') ∧ Sim mp' L' ∧ L'.length ≤ L.length ∧ r'.2.2.1 = sco r.2.2.1 N ∧ r'.2.2.2.1 = (r.2.2.2.1 || decide (100 ≤ sco r.2.2.1 N)) ∧
    (r.2.2.2.1 = true → wt' = wt ∧ L' = L) ∧ (r.2.2.2.1 = false → r'.2.2.2.1 = true → wt' = false ∧ L' = []) := by
  obtain ⟨fl, wk, sc, bn, u⟩ := r
  dsimp only at hsc ⊢
  -- the program's score
  have hp : imin (IntKind.wrap .i64 (sc + imin (imax N 0) 1073741824)) 1073741824 = sco sc N := by
    unfold sco
    have h1 : 0 ≤ imin (imax N 0) 1073741824 ∧ imin (imax N 0) 1073741824 ≤ 1073741824 := by unfold imin imax; constructor <;> (repeat' split) <;> omega
    rw [wrap_id (by omega) (by omega)]
  have hW : IntKind.wrap .i64 (1073741824 - sc) = 1073741824 - sc := wrap_id (by omega) (by omega)
  -- the document's
  have doc : ∀ h : kT53.den → Bool → Option A, rblame_k n (XX b m wt key dl L (fl, (wk, (sc, (bn, u))))) N h = bif bn then h (XX b m wt key dl L (fl, (wk, (sco sc N, (bn, u))))) false else
      bif decide (sco sc N < 100) then h (XX b m wt key dl L (fl, (wk, (sco sc N, (bn, u))))) false else h (XX b m false zk 0 [] (fl, (wk, (sco sc N, (true, u))))) true := fun h => by
    unfold rblame_k rblame_p XX
    dsimp only
    rw [hW]
    by_cases h1 : N < 0
    · rw [decide_eq_true h1, cond_true]
      have e1 : decide (0 > (1073741824 - sc)) = false := decide_eq_false (by omega)
      have e2 : IntKind.wrap .i64 (sc + 0) = sco sc N := by
        rw [wrap_id (by omega) (by omega)]; unfold sco imin imax
        repeat' split
        all_goals omega
      rw [e1, cond_false, e2]
      rfl
    · rw [decide_eq_false h1, cond_false]
      by_cases h2 : N > 1073741824 - sc
      · have e2 : IntKind.wrap .i64 (sc + (1073741824 - sc)) = sco sc N := by
          rw [wrap_id (by omega) (by omega)]; unfold sco imin imax
          repeat' split
          all_goals omega
        rw [decide_eq_true h2, cond_true, e2]
        rfl
      · have e2 : IntKind.wrap .i64 (sc + N) = sco sc N := by
          rw [wrap_id (by omega) (by omega)]; unfold sco imin imax
          repeat' split
          all_goals omega
        rw [decide_eq_false h2, cond_false, e2]
        rfl
  have prog : ∀ g : Bool → Int → Int → PK → Int → Bool → R4 → PM → Option A, blame_k n N b m key dl wt (fl, (wk, (sc, (bn, u)))) mp g = bif bn then g false b m key dl wt (fl, (wk, (sco sc N, (bn, u)))) mp else
      bif decide (sco sc N < 100) then g false b m key dl wt (fl, (wk, (sco sc N, (bn, u)))) mp else g true b m zk 0 false (fl, (wk, (sco sc N, (true, u)))) [] := fun g => by
    unfold blame_k blame_p
    dsimp only
    rw [hp]
    rfl
  cases bn with
  | true =>
    exact ⟨false, key, dl, wt, _, mp, L, fun h => doc h, fun g => prog g, hs, Nat.le_refl _, rfl, rfl, fun _ => ⟨rfl, rfl⟩, fun h => by cases h⟩
  | false =>
    by_cases h1 : sco sc N < 100
    · refine ⟨false, key, dl, wt, (fl, (wk, (sco sc N, (false, u)))), mp, L, fun h => ?_, fun g => ?_, hs, Nat.le_refl _, rfl, ?_, fun _ => ⟨rfl, rfl⟩, fun _ h => by cases h⟩
      · rw [doc, cond_false, decide_eq_true h1, cond_true]
      · rw [prog, cond_false, decide_eq_true h1, cond_true]
      · rw [decide_eq_false (by omega)]; rfl
    · refine ⟨true, zk, 0, false, (fl, (wk, (sco sc N, (true, u)))), [], [], fun h => ?_, fun g => ?_, .nil, Nat.zero_le _, rfl, ?_, (fun h => by cases h), fun _ _ => ⟨rfl, rfl⟩⟩
      · rw [doc, cond_false, decide_eq_false h1, cond_false]
      · rw [prog, cond_false, decide_eq_false h1, cond_false]
      · rw [decide_eq_true (by omega)]; rfl

end Go.Ev
end

section
/-
  FUNCTION 12: printed by a program of our own (wip/gen/st.py). 'masthead/peer.New', in continuation form; the evaluator gives it.
-/
set_option linter.all false
set_option maxRecDepth 100000
namespace Go.Ev
open Go.Proofs
variable {A : Type}

-- ============================================================ new_ (function 12)
def new__p (g_right : Int → Int → (Bool → Option A) → Option A) (n : Nat) (a0 : Int) (a1 : Int) (k0 : Int → Option A) (k1 : Int → Int → Int → (Int × ((List Int) × (Int × Unit))) → Int → Bool → (Int × (Int × (Int × (Bool × Unit)))) → (List ((Int × ((List Int) × (Int × Unit))) × Int)) → Option A) : Option A :=
  g_right a0 a1 fun r1 =>
  bif (!r1) then
    k0 1
  else
    k1 0 a0 a1 (0, ((List.replicate 32 (0 : Int)), (0, ()))) 0 false (0, (0, (0, (false, ())))) []

def new__k (n : Nat) (a0 : Int) (a1 : Int) (k0 : Int → Option A) (k1 : Int → Int → Int → (Int × ((List Int) × (Int × Unit))) → Int → Bool → (Int × (Int × (Int × (Bool × Unit)))) → (List ((Int × ((List Int) × (Int × Unit))) × Int)) → Option A) : Option A := new__p (right_k n) n a0 a1 k0 k1

noncomputable def new__E (g_right : Int → Int → (Bool → Option A) → Option A) (n : Nat) : Env A := ⟨tys, gls, [(26, right_ent g_right)], [], []⟩
theorem new__T (g_right : Int → Int → (Bool → Option A) → Option A) (n : Nat) : TyOK Try.prog (new__E g_right n) := tyOK_of rfl tysB
theorem new__fns (n : Nat) : FnsOK Try.prog (new__E (A := A) (right_k n) n) := AllOK.env rfl rfl (AllOK.cons (right_ok n) AllOK.nil)
theorem new__eqg (g_right : Int → Int → (Bool → Option A) → Option A) (n : Nat) (a0 : Int) (a1 : Int) (k : AV → List Blk → Option A) : fnK (new__E g_right n) Try.f12 [.own, .pure] [.p (.int .i64) a0, .p (.int .i64) a1] [] k = new__p g_right n a0 a1 (fun r0 => k (.tup [.nilp, .p (.int .i64) r0]) []) (fun r0 r1 r2 r3 r4 r5 r6 r7 => k (.tup [.ptr 0 [], .p (.int .i64) r0]) [.var 63 kT62 (.pr (.p (.int .i64) r1) (.pr (.p (.int .i64) r2) (.pr (.p kT38 r3) (.pr (.p (.int .i64) r4) (.pr (.p .bool r5) (.pr (.mp 1) (.p (.pair (.int .i64) (.pair (.int .i64) (.pair (.int .i64) (.pair .bool .unit)))) r6))))))), .map kT38 (.int .i64) r7]) := by kernel_rfl
theorem new__eq (n : Nat) (a0 : Int) (a1 : Int) (k : AV → List Blk → Option A) : fnK (new__E (right_k n) n) Try.f12 [.own, .pure] [.p (.int .i64) a0, .p (.int .i64) a1] [] k = new__k n a0 a1 (fun r0 => k (.tup [.nilp, .p (.int .i64) r0]) []) (fun r0 r1 r2 r3 r4 r5 r6 r7 => k (.tup [.ptr 0 [], .p (.int .i64) r0]) [.var 63 kT62 (.pr (.p (.int .i64) r1) (.pr (.p (.int .i64) r2) (.pr (.p kT38 r3) (.pr (.p (.int .i64) r4) (.pr (.p .bool r5) (.pr (.mp 1) (.p (.pair (.int .i64) (.pair (.int .i64) (.pair (.int .i64) (.pair .bool .unit)))) r6))))))), .map kT38 (.int .i64) r7]) := new__eqg (right_k n) n a0 a1 k
def new__ent (g : Int → Int → (Int → Option A) → (Int → Int → Int → (Int × ((List Int) × (Int × Unit))) → Int → Bool → (Int × (Int × (Int × (Bool × Unit)))) → (List ((Int × ((List Int) × (Int × Unit))) × Int)) → Option A) → Option A) : Entry A := pureE fun args k => args2 args (.int .i64) (.int .i64) fun a0 a1 => g a0 a1 (fun r0 => k (.tup [.nilp, .p (.int .i64) r0]) []) (fun r0 r1 r2 r3 r4 r5 r6 r7 => k (.tup [.ptr 0 [], .p (.int .i64) r0]) [.var 63 kT62 (.pr (.p (.int .i64) r1) (.pr (.p (.int .i64) r2) (.pr (.p kT38 r3) (.pr (.p (.int .i64) r4) (.pr (.p .bool r5) (.pr (.mp 1) (.p (.pair (.int .i64) (.pair (.int .i64) (.pair (.int .i64) (.pair .bool .unit)))) r6))))))), .map kT38 (.int .i64) r7])
theorem new__lo (n : Nat) : ∀ c, Try.f12.body = some c → ∀ q ∈ loopsOf 0 c, ∀ L, (new__E (A := A) (right_k n) n).lps.lookup q.1 = some L → LoopOK Try.prog gls q.2 L :=
  lo_body (E := new__E (right_k n) n) (by kernel_rfl : Try.f12.body = some (bodyOf Try.f12)) (lo_of (E := new__E (right_k n) n) (by kernel_rfl : loopsOf 0 (bodyOf Try.f12) = []) lo_nil)
theorem new__ok (n : Nat) : FnOK Try.prog gls 12 (new__ent (A := A) (new__k n)) :=
  FnOK.of (new__T (right_k n) n) (new__fns n) follows ⟨Try.func12, by kernel_rfl⟩ (new__lo n) (rm := [.own, .pure]) fun args k out h => by
    obtain ⟨a0, a1, e, h1⟩ := args2_sound h
    subst e; rw [new__eq]; exact h1

end Go.Ev
end

section
/-
  FUNCTION 24: printed by a program of our own (wip/gen/st.py). '(*masthead/peer.Peer).Waits', in continuation form; the evaluator gives it.
-/
set_option linter.all false
set_option maxRecDepth 100000
namespace Go.Ev
open Go.Proofs
variable {A : Type}

-- ============================================================ waits (function 24)
def waits_p (n : Nat) (pa : Int) (pba : Int) (pbba : (Int × ((List Int) × (Int × Unit)))) (pbbba : Int) (pbbbba : Bool) (pbbbbbb : (Int × (Int × (Int × (Bool × Unit))))) (pbbbbba : (List ((Int × ((List Int) × (Int × Unit))) × Int))) (k : (Int × ((List Int) × (Int × Unit))) → Int → Bool → Int → Int → (Int × ((List Int) × (Int × Unit))) → Int → Bool → (Int × (Int × (Int × (Bool × Unit)))) → (List ((Int × ((List Int) × (Int × Unit))) × Int)) → Option A) : Option A :=
  k pbba pbbba pbbbba pa pba pbba pbbba pbbbba pbbbbbb pbbbbba

def waits_k (n : Nat) (pa : Int) (pba : Int) (pbba : (Int × ((List Int) × (Int × Unit)))) (pbbba : Int) (pbbbba : Bool) (pbbbbbb : (Int × (Int × (Int × (Bool × Unit))))) (pbbbbba : (List ((Int × ((List Int) × (Int × Unit))) × Int))) (k : (Int × ((List Int) × (Int × Unit))) → Int → Bool → Int → Int → (Int × ((List Int) × (Int × Unit))) → Int → Bool → (Int × (Int × (Int × (Bool × Unit)))) → (List ((Int × ((List Int) × (Int × Unit))) × Int)) → Option A) : Option A := waits_p n pa pba pbba pbbba pbbbba pbbbbbb pbbbbba k

noncomputable def waits_E (n : Nat) : Env A := ⟨tys, gls, [], [], []⟩
theorem waits_T {A : Type} (n : Nat) : TyOK Try.prog (waits_E (A := A) n) := tyOK_of rfl tysB
theorem waits_fns (n : Nat) : FnsOK Try.prog (waits_E (A := A) n) := AllOK.env rfl rfl AllOK.nil
theorem waits_eqg (n : Nat) (pa : Int) (pba : Int) (pbba : (Int × ((List Int) × (Int × Unit)))) (pbbba : Int) (pbbbba : Bool) (pbbbbbb : (Int × (Int × (Int × (Bool × Unit))))) (pbbbbba : (List ((Int × ((List Int) × (Int × Unit))) × Int))) (k : AV → List Blk → Option A) : fnK (waits_E n) Try.f24 [.pure, .pure, .pure] [.ptr 0 []] [.var 63 kT62 (.pr (.p (.int .i64) pa) (.pr (.p (.int .i64) pba) (.pr (.p kT38 pbba) (.pr (.p (.int .i64) pbbba) (.pr (.p .bool pbbbba) (.pr (.mp 1) (.p (.pair (.int .i64) (.pair (.int .i64) (.pair (.int .i64) (.pair .bool .unit)))) pbbbbbb))))))), .map kT38 (.int .i64) pbbbbba] k = waits_p n pa pba pbba pbbba pbbbba pbbbbbb pbbbbba (fun r0 r1 r2 r3 r4 r5 r6 r7 r8 r9 => k (.tup [.p kT38 r0, .p (.int .i64) r1, .p .bool r2]) [.var 63 kT62 (.pr (.p (.int .i64) r3) (.pr (.p (.int .i64) r4) (.pr (.p kT38 r5) (.pr (.p (.int .i64) r6) (.pr (.p .bool r7) (.pr (.mp 1) (.p (.pair (.int .i64) (.pair (.int .i64) (.pair (.int .i64) (.pair .bool .unit)))) r8))))))), .map kT38 (.int .i64) r9]) := by kernel_rfl
theorem waits_eq (n : Nat) (pa : Int) (pba : Int) (pbba : (Int × ((List Int) × (Int × Unit)))) (pbbba : Int) (pbbbba : Bool) (pbbbbbb : (Int × (Int × (Int × (Bool × Unit))))) (pbbbbba : (List ((Int × ((List Int) × (Int × Unit))) × Int))) (k : AV → List Blk → Option A) : fnK (waits_E n) Try.f24 [.pure, .pure, .pure] [.ptr 0 []] [.var 63 kT62 (.pr (.p (.int .i64) pa) (.pr (.p (.int .i64) pba) (.pr (.p kT38 pbba) (.pr (.p (.int .i64) pbbba) (.pr (.p .bool pbbbba) (.pr (.mp 1) (.p (.pair (.int .i64) (.pair (.int .i64) (.pair (.int .i64) (.pair .bool .unit)))) pbbbbbb))))))), .map kT38 (.int .i64) pbbbbba] k = waits_k n pa pba pbba pbbba pbbbba pbbbbbb pbbbbba (fun r0 r1 r2 r3 r4 r5 r6 r7 r8 r9 => k (.tup [.p kT38 r0, .p (.int .i64) r1, .p .bool r2]) [.var 63 kT62 (.pr (.p (.int .i64) r3) (.pr (.p (.int .i64) r4) (.pr (.p kT38 r5) (.pr (.p (.int .i64) r6) (.pr (.p .bool r7) (.pr (.mp 1) (.p (.pair (.int .i64) (.pair (.int .i64) (.pair (.int .i64) (.pair .bool .unit)))) r8))))))), .map kT38 (.int .i64) r9]) := waits_eqg n pa pba pbba pbbba pbbbba pbbbbbb pbbbbba k
def waits_sh : Shape := ⟨[(.ptr 0)], [(.var 63 kT62 (.pr (.p (.int .i64)) (.pr (.p (.int .i64)) (.pr (.p kT38) (.pr (.p (.int .i64)) (.pr (.p .bool) (.pr (.mp 1) (.p (.pair (.int .i64) (.pair (.int .i64) (.pair (.int .i64) (.pair .bool .unit)))))))))))), (.map kT38 (.int .i64))], 2⟩
def waits_ent (g : Int → Int → (Int × ((List Int) × (Int × Unit))) → Int → Bool → (Int × (Int × (Int × (Bool × Unit)))) → (List ((Int × ((List Int) × (Int × Unit))) × Int)) → ((Int × ((List Int) × (Int × Unit))) → Int → Bool → Int → Int → (Int × ((List Int) × (Int × Unit))) → Int → Bool → (Int × (Int × (Int × (Bool × Unit)))) → (List ((Int × ((List Int) × (Int × Unit))) × Int)) → Option A) → Option A) : Entry A := ownE [true] waits_sh fun d k => g d.2.1.1 d.2.1.2.1 d.2.1.2.2.1 d.2.1.2.2.2.1 d.2.1.2.2.2.2.1 d.2.1.2.2.2.2.2.2 d.2.2.1 (fun r0 r1 r2 r3 r4 r5 r6 r7 r8 r9 => k (.tup [.p kT38 r0, .p (.int .i64) r1, .p .bool r2]) [.var 63 kT62 (.pr (.p (.int .i64) r3) (.pr (.p (.int .i64) r4) (.pr (.p kT38 r5) (.pr (.p (.int .i64) r6) (.pr (.p .bool r7) (.pr (.mp 1) (.p (.pair (.int .i64) (.pair (.int .i64) (.pair (.int .i64) (.pair .bool .unit)))) r8))))))), .map kT38 (.int .i64) r9])
theorem waits_lo (n : Nat) : ∀ c, Try.f24.body = some c → ∀ q ∈ loopsOf 0 c, ∀ L, (waits_E (A := A) n).lps.lookup q.1 = some L → LoopOK Try.prog gls q.2 L :=
  lo_body (E := waits_E n) (by kernel_rfl : Try.f24.body = some (bodyOf Try.f24)) (lo_of (E := waits_E n) (by kernel_rfl : loopsOf 0 (bodyOf Try.f24) = []) lo_nil)
theorem waits_ok (n : Nat) : FnOK Try.prog gls 24 (waits_ent (A := A) (waits_k n)) :=
  FnOK.ofOwn (waits_T n) (waits_fns n) follows ⟨Try.func24, by kernel_rfl⟩ (waits_lo n) (rm := [.pure, .pure, .pure]) (S := waits_sh) fun d k => Eq.trans (by kernel_rfl) (waits_eq n d.2.1.1 d.2.1.2.1 d.2.1.2.2.1 d.2.1.2.2.2.1 d.2.1.2.2.2.2.1 d.2.1.2.2.2.2.2.2 d.2.2.1 k)

end Go.Ev
end

section
/-
  FUNCTION 11: printed by a program of our own (wip/gen/st.py). 'masthead/mastheadlaw24.awake', in continuation form; the evaluator gives it.
-/
set_option linter.all false
set_option maxRecDepth 100000
namespace Go.Ev
open Go.Proofs
variable {A : Type}

-- ============================================================ awake (function 11)
def awake_p (g_new_ : Int → Int → (Int → Option A) → (Int → Int → Int → (Int × ((List Int) × (Int × Unit))) → Int → Bool → (Int × (Int × (Int × (Bool × Unit)))) → (List ((Int × ((List Int) × (Int × Unit))) × Int)) → Option A) → Option A) (g_ask : (Int × ((List Int) × (Int × Unit))) → Int → Int → Int → (Int × ((List Int) × (Int × Unit))) → Int → Bool → (Int × (Int × (Int × (Bool × Unit)))) → (List ((Int × ((List Int) × (Int × Unit))) × Int)) → (Int → Int → Int → (Int × ((List Int) × (Int × Unit))) → Int → Bool → (Int × (Int × (Int × (Bool × Unit)))) → (List ((Int × ((List Int) × (Int × Unit))) × Int)) → Option A) → Option A) (g_waits : Int → Int → (Int × ((List Int) × (Int × Unit))) → Int → Bool → (Int × (Int × (Int × (Bool × Unit)))) → (List ((Int × ((List Int) × (Int × Unit))) × Int)) → ((Int × ((List Int) × (Int × Unit))) → Int → Bool → Int → Int → (Int × ((List Int) × (Int × Unit))) → Int → Bool → (Int × (Int × (Int × (Bool × Unit)))) → (List ((Int × ((List Int) × (Int × Unit))) × Int)) → Option A) → Option A) (g_delay : Int → Int → Int → (Int → Option A) → Option A) (g_match_ : (Int × ((List Int) × (Int × Unit))) → Int → Int → (Int × ((List Int) × (Int × Unit))) → Int → Bool → (Int × (Int × (Int × (Bool × Unit)))) → (List ((Int × ((List Int) × (Int × Unit))) × Int)) → (Int → Int → Int → (Int × ((List Int) × (Int × Unit))) → Int → Bool → (Int × (Int × (Int × (Bool × Unit)))) → (List ((Int × ((List Int) × (Int × Unit))) × Int)) → Option A) → Option A) (n : Nat) (k : Bool → Option A) : Option A :=
  g_new_ 4 20 (fun r1 =>
    bif (r1 != 0) then
      k false
    else
      k false) (fun r2 r3 r4 r5 r6 r7 r8 r9 =>
    bif (r2 != 0) then
      k false
    else
      g_ask (3, ((List.replicate 32 (0 : Int)), (0, ()))) 5 r3 r4 r5 r6 r7 r8 r9 fun r10 r11 r12 r13 r14 r15 r16 r17 =>
      bif (r10 != 0) then
        k false
      else
        g_waits r11 r12 r13 r14 r15 r16 r17 fun r18 r19 r20 r21 r22 r23 r24 r25 r26 r27 =>
        g_delay 4 20 3 fun r28 =>
        bif (r28 == 16) then
          g_delay 4 20 4 fun r29 =>
          bif (r29 == 20) then
            bif (deq kT38 r18 (3, ((List.replicate 32 (0 : Int)), (0, ())))) then
              bif (r19 == 9) then
                bif r20 then
                  g_match_ (0, ((List.replicate 32 (0 : Int)), (0, ()))) r21 r22 r23 r24 r25 r26 r27 fun r30 r31 r32 r33 r34 r35 r36 r37 =>
                  k (r30 == 0)
                else
                  k false
              else
                k false
            else
              k false
          else
            k false
        else
          k false)

def awake_k (n : Nat) (k : Bool → Option A) : Option A := awake_p (new__k n) (ask_k n) (waits_k n) (delay_k n) (match__k n) n k

noncomputable def awake_E (g_new_ : Int → Int → (Int → Option A) → (Int → Int → Int → (Int × ((List Int) × (Int × Unit))) → Int → Bool → (Int × (Int × (Int × (Bool × Unit)))) → (List ((Int × ((List Int) × (Int × Unit))) × Int)) → Option A) → Option A) (g_ask : (Int × ((List Int) × (Int × Unit))) → Int → Int → Int → (Int × ((List Int) × (Int × Unit))) → Int → Bool → (Int × (Int × (Int × (Bool × Unit)))) → (List ((Int × ((List Int) × (Int × Unit))) × Int)) → (Int → Int → Int → (Int × ((List Int) × (Int × Unit))) → Int → Bool → (Int × (Int × (Int × (Bool × Unit)))) → (List ((Int × ((List Int) × (Int × Unit))) × Int)) → Option A) → Option A) (g_waits : Int → Int → (Int × ((List Int) × (Int × Unit))) → Int → Bool → (Int × (Int × (Int × (Bool × Unit)))) → (List ((Int × ((List Int) × (Int × Unit))) × Int)) → ((Int × ((List Int) × (Int × Unit))) → Int → Bool → Int → Int → (Int × ((List Int) × (Int × Unit))) → Int → Bool → (Int × (Int × (Int × (Bool × Unit)))) → (List ((Int × ((List Int) × (Int × Unit))) × Int)) → Option A) → Option A) (g_delay : Int → Int → Int → (Int → Option A) → Option A) (g_match_ : (Int × ((List Int) × (Int × Unit))) → Int → Int → (Int × ((List Int) × (Int × Unit))) → Int → Bool → (Int × (Int × (Int × (Bool × Unit)))) → (List ((Int × ((List Int) × (Int × Unit))) × Int)) → (Int → Int → Int → (Int × ((List Int) × (Int × Unit))) → Int → Bool → (Int × (Int × (Int × (Bool × Unit)))) → (List ((Int × ((List Int) × (Int × Unit))) × Int)) → Option A) → Option A) (n : Nat) : Env A := ⟨tys, gls, [(12, new__ent g_new_), (14, ask_ent g_ask), (24, waits_ent g_waits), (8, delay_ent g_delay), (17, match__ent g_match_)], [], []⟩
theorem awake_T (g_new_ : Int → Int → (Int → Option A) → (Int → Int → Int → (Int × ((List Int) × (Int × Unit))) → Int → Bool → (Int × (Int × (Int × (Bool × Unit)))) → (List ((Int × ((List Int) × (Int × Unit))) × Int)) → Option A) → Option A) (g_ask : (Int × ((List Int) × (Int × Unit))) → Int → Int → Int → (Int × ((List Int) × (Int × Unit))) → Int → Bool → (Int × (Int × (Int × (Bool × Unit)))) → (List ((Int × ((List Int) × (Int × Unit))) × Int)) → (Int → Int → Int → (Int × ((List Int) × (Int × Unit))) → Int → Bool → (Int × (Int × (Int × (Bool × Unit)))) → (List ((Int × ((List Int) × (Int × Unit))) × Int)) → Option A) → Option A) (g_waits : Int → Int → (Int × ((List Int) × (Int × Unit))) → Int → Bool → (Int × (Int × (Int × (Bool × Unit)))) → (List ((Int × ((List Int) × (Int × Unit))) × Int)) → ((Int × ((List Int) × (Int × Unit))) → Int → Bool → Int → Int → (Int × ((List Int) × (Int × Unit))) → Int → Bool → (Int × (Int × (Int × (Bool × Unit)))) → (List ((Int × ((List Int) × (Int × Unit))) × Int)) → Option A) → Option A) (g_delay : Int → Int → Int → (Int → Option A) → Option A) (g_match_ : (Int × ((List Int) × (Int × Unit))) → Int → Int → (Int × ((List Int) × (Int × Unit))) → Int → Bool → (Int × (Int × (Int × (Bool × Unit)))) → (List ((Int × ((List Int) × (Int × Unit))) × Int)) → (Int → Int → Int → (Int × ((List Int) × (Int × Unit))) → Int → Bool → (Int × (Int × (Int × (Bool × Unit)))) → (List ((Int × ((List Int) × (Int × Unit))) × Int)) → Option A) → Option A) (n : Nat) : TyOK Try.prog (awake_E g_new_ g_ask g_waits g_delay g_match_ n) := tyOK_of rfl tysB
theorem awake_fns (n : Nat) : FnsOK Try.prog (awake_E (A := A) (new__k n) (ask_k n) (waits_k n) (delay_k n) (match__k n) n) := AllOK.env rfl rfl (AllOK.cons (new__ok n) (AllOK.cons (ask_ok n) (AllOK.cons (waits_ok n) (AllOK.cons (delay_ok n) (AllOK.cons (match__ok n) AllOK.nil)))))
theorem awake_eqg (g_new_ : Int → Int → (Int → Option A) → (Int → Int → Int → (Int × ((List Int) × (Int × Unit))) → Int → Bool → (Int × (Int × (Int × (Bool × Unit)))) → (List ((Int × ((List Int) × (Int × Unit))) × Int)) → Option A) → Option A) (g_ask : (Int × ((List Int) × (Int × Unit))) → Int → Int → Int → (Int × ((List Int) × (Int × Unit))) → Int → Bool → (Int × (Int × (Int × (Bool × Unit)))) → (List ((Int × ((List Int) × (Int × Unit))) × Int)) → (Int → Int → Int → (Int × ((List Int) × (Int × Unit))) → Int → Bool → (Int × (Int × (Int × (Bool × Unit)))) → (List ((Int × ((List Int) × (Int × Unit))) × Int)) → Option A) → Option A) (g_waits : Int → Int → (Int × ((List Int) × (Int × Unit))) → Int → Bool → (Int × (Int × (Int × (Bool × Unit)))) → (List ((Int × ((List Int) × (Int × Unit))) × Int)) → ((Int × ((List Int) × (Int × Unit))) → Int → Bool → Int → Int → (Int × ((List Int) × (Int × Unit))) → Int → Bool → (Int × (Int × (Int × (Bool × Unit)))) → (List ((Int × ((List Int) × (Int × Unit))) × Int)) → Option A) → Option A) (g_delay : Int → Int → Int → (Int → Option A) → Option A) (g_match_ : (Int × ((List Int) × (Int × Unit))) → Int → Int → (Int × ((List Int) × (Int × Unit))) → Int → Bool → (Int × (Int × (Int × (Bool × Unit)))) → (List ((Int × ((List Int) × (Int × Unit))) × Int)) → (Int → Int → Int → (Int × ((List Int) × (Int × Unit))) → Int → Bool → (Int × (Int × (Int × (Bool × Unit)))) → (List ((Int × ((List Int) × (Int × Unit))) × Int)) → Option A) → Option A) (n : Nat) (k : AV → List Blk → Option A) : fnK (awake_E g_new_ g_ask g_waits g_delay g_match_ n) Try.f11 [.pure] [] [] k = awake_p g_new_ g_ask g_waits g_delay g_match_ n (fun r0 => k (.p .bool r0) []) := by kernel_rfl
theorem awake_eq (n : Nat) (k : AV → List Blk → Option A) : fnK (awake_E (new__k n) (ask_k n) (waits_k n) (delay_k n) (match__k n) n) Try.f11 [.pure] [] [] k = awake_k n (fun r0 => k (.p .bool r0) []) := awake_eqg (new__k n) (ask_k n) (waits_k n) (delay_k n) (match__k n) n k
def awake_ent (g : (Bool → Option A) → Option A) : Entry A := pureE fun args k => args0 args (g (fun r0 => k (.p .bool r0) []))
theorem awake_lo (n : Nat) : ∀ c, Try.f11.body = some c → ∀ q ∈ loopsOf 0 c, ∀ L, (awake_E (A := A) (new__k n) (ask_k n) (waits_k n) (delay_k n) (match__k n) n).lps.lookup q.1 = some L → LoopOK Try.prog gls q.2 L :=
  lo_body (E := awake_E (new__k n) (ask_k n) (waits_k n) (delay_k n) (match__k n) n) (by kernel_rfl : Try.f11.body = some (bodyOf Try.f11)) (lo_of (E := awake_E (new__k n) (ask_k n) (waits_k n) (delay_k n) (match__k n) n) (by kernel_rfl : loopsOf 0 (bodyOf Try.f11) = []) lo_nil)
theorem awake_ok (n : Nat) : FnOK Try.prog gls 11 (awake_ent (A := A) (awake_k n)) :=
  FnOK.of (awake_T (new__k n) (ask_k n) (waits_k n) (delay_k n) (match__k n) n) (awake_fns n) follows ⟨Try.func11, by kernel_rfl⟩ (awake_lo n) (rm := [.pure]) fun args k out h => by
    obtain ⟨e, h1⟩ := args0_sound h
    subst e; rw [awake_eq]; exact h1

end Go.Ev
end

section
/-
  FUNCTION 3: printed by a program of our own (wip/gen/st.py). 'masthead/mastheadlaw24.PeerDelays', in continuation form; the evaluator gives it.
-/
set_option linter.all false
set_option maxRecDepth 100000
namespace Go.Ev
open Go.Proofs
variable {A : Type}

-- ============================================================ delays (function 3)
def delays_p (g_delay : Int → Int → Int → (Int → Option A) → Option A) (g_rdelay : Int → Int → Int → (Int → Option A) → Option A) (g_rright : Int → Int → (Bool → Option A) → Option A) (g_awake : (Bool → Option A) → Option A) (n : Nat) (a0 : Int) (a1 : Int) (a2 : Int) (k : Bool → Option A) : Option A :=
  g_delay a0 a1 a2 fun r1 =>
  g_rdelay a0 a1 (imin a2 64) fun r2 =>
  bif (r1 != r2) then
    k false
  else
    g_rright a0 a1 fun r3 =>
    bif (!r3) then
      g_awake fun r4 =>
      k r4
    else
      bif (decide (a2 < 1)) then
        g_awake fun r5 =>
        k r5
      else
        bif (decide (a2 > 1099511627776)) then
          g_awake fun r6 =>
          k r6
        else
          bif (decide (r1 ≥ a0)) then
            bif (decide (r1 ≤ a1)) then
              g_delay a0 a1 (IntKind.wrap .i64 (a2 + 1)) fun r7 =>
              bif (decide (r7 ≥ r1)) then
                g_awake fun r8 =>
                k r8
              else
                k false
            else
              k false
          else
            k false

def delays_k (n : Nat) (a0 : Int) (a1 : Int) (a2 : Int) (k : Bool → Option A) : Option A := delays_p (delay_k n) (rdelay_k n) (rright_k n) (awake_k n) n a0 a1 a2 k

noncomputable def delays_E (g_delay : Int → Int → Int → (Int → Option A) → Option A) (g_rdelay : Int → Int → Int → (Int → Option A) → Option A) (g_rright : Int → Int → (Bool → Option A) → Option A) (g_awake : (Bool → Option A) → Option A) (n : Nat) : Env A := ⟨tys, gls, [(8, delay_ent g_delay), (9, rdelay_ent g_rdelay), (10, rright_ent g_rright), (11, awake_ent g_awake)], [], []⟩
theorem delays_T (g_delay : Int → Int → Int → (Int → Option A) → Option A) (g_rdelay : Int → Int → Int → (Int → Option A) → Option A) (g_rright : Int → Int → (Bool → Option A) → Option A) (g_awake : (Bool → Option A) → Option A) (n : Nat) : TyOK Try.prog (delays_E g_delay g_rdelay g_rright g_awake n) := tyOK_of rfl tysB
theorem delays_fns (n : Nat) : FnsOK Try.prog (delays_E (A := A) (delay_k n) (rdelay_k n) (rright_k n) (awake_k n) n) := AllOK.env rfl rfl (AllOK.cons (delay_ok n) (AllOK.cons (rdelay_ok n) (AllOK.cons (rright_ok n) (AllOK.cons (awake_ok n) AllOK.nil))))
theorem delays_eqg (g_delay : Int → Int → Int → (Int → Option A) → Option A) (g_rdelay : Int → Int → Int → (Int → Option A) → Option A) (g_rright : Int → Int → (Bool → Option A) → Option A) (g_awake : (Bool → Option A) → Option A) (n : Nat) (a0 : Int) (a1 : Int) (a2 : Int) (k : AV → List Blk → Option A) : fnK (delays_E g_delay g_rdelay g_rright g_awake n) Try.f3 [.pure] [.p (.int .i64) a0, .p (.int .i64) a1, .p (.int .i64) a2] [] k = delays_p g_delay g_rdelay g_rright g_awake n a0 a1 a2 (fun r0 => k (.p .bool r0) []) := by kernel_rfl
theorem delays_eq (n : Nat) (a0 : Int) (a1 : Int) (a2 : Int) (k : AV → List Blk → Option A) : fnK (delays_E (delay_k n) (rdelay_k n) (rright_k n) (awake_k n) n) Try.f3 [.pure] [.p (.int .i64) a0, .p (.int .i64) a1, .p (.int .i64) a2] [] k = delays_k n a0 a1 a2 (fun r0 => k (.p .bool r0) []) := delays_eqg (delay_k n) (rdelay_k n) (rright_k n) (awake_k n) n a0 a1 a2 k
def delays_ent (g : Int → Int → Int → (Bool → Option A) → Option A) : Entry A := pureE fun args k => args3 args (.int .i64) (.int .i64) (.int .i64) fun a0 a1 a2 => g a0 a1 a2 (fun r0 => k (.p .bool r0) [])
theorem delays_lo (n : Nat) : ∀ c, Try.f3.body = some c → ∀ q ∈ loopsOf 0 c, ∀ L, (delays_E (A := A) (delay_k n) (rdelay_k n) (rright_k n) (awake_k n) n).lps.lookup q.1 = some L → LoopOK Try.prog gls q.2 L :=
  lo_body (E := delays_E (delay_k n) (rdelay_k n) (rright_k n) (awake_k n) n) (by kernel_rfl : Try.f3.body = some (bodyOf Try.f3)) (lo_of (E := delays_E (delay_k n) (rdelay_k n) (rright_k n) (awake_k n) n) (by kernel_rfl : loopsOf 0 (bodyOf Try.f3) = []) lo_nil)
theorem delays_ok (n : Nat) : FnOK Try.prog gls 3 (delays_ent (A := A) (delays_k n)) :=
  FnOK.of (delays_T (delay_k n) (rdelay_k n) (rright_k n) (awake_k n) n) (delays_fns n) follows ⟨Try.func3, by kernel_rfl⟩ (delays_lo n) (rm := [.pure]) fun args k out h => by
    obtain ⟨a0, a1, a2, e, h1⟩ := args3_sound h
    subst e; rw [delays_eq]; exact h1

end Go.Ev
end

section
/-
  THE LAW OF PeerDelays.
-/
set_option linter.all false
namespace Go.Ev
variable {A : Type}

theorem awake_1000 (k : Bool → Option A) : awake_k 1000 k = k true := by kernel_rfl

theorem delays_law (a0 a1 a2 : Int) (f0 : WF (.int .i64) a0) (f1 : WF (.int .i64) a1) (f2 : WF (.int .i64) a2) : ∃ n, delays_k n a0 a1 a2 (fun r => some r) = some true := by
  have hf := wf_i64 f2
  refine ⟨1000, ?_⟩
  have haw : ∀ k : Bool → Option Bool, awake_k 1000 k = k true := awake_1000
  have hn : 30 < 1000 := by decide
  generalize 1000 = n at haw hn
  unfold delays_k delays_p
  by_cases h : Rt a0 a1
  · have hm : imin a2 64 ≤ 9223372036854775807 := by unfold imin; split <;> omega
    rw [delay_law n hn a0 a1 a2 h hf.2, rdelay_law n hn a0 a1 _ h hm, DD_sat a0 a1 a2 h]
    rw [show (DD a0 a1 a2 != DD a0 a1 a2) = false from bne_self_eq_false _, cond_false, rright_law, decide_eq_true h, Bool.not_true, cond_false]
    by_cases h1 : a2 < 1
    · rw [decide_eq_true h1, cond_true, haw]
    · rw [decide_eq_false h1, cond_false]
      by_cases h2 : a2 > 1099511627776
      · rw [decide_eq_true h2, cond_true, haw]
      · obtain ⟨g1, g2, g3⟩ := DD_ge a0 a1 a2 h (by omega)
        rw [decide_eq_false h2, cond_false, decide_eq_true (show DD a0 a1 a2 ≥ a0 from g1), cond_true, decide_eq_true g2, cond_true, wrap_id (by omega) (by omega), delay_law n hn a0 a1 _ h (by omega), decide_eq_true (show DD a0 a1 (a2 + 1) ≥ DD a0 a1 a2 from g3), cond_true, haw]
  · rw [delay_off n a0 a1 a2 h, rdelay_off n a0 a1 _ h]
    rw [show ((0 : Int) != 0) = false from rfl, cond_false, rright_law, decide_eq_false h, Bool.not_false, cond_true, haw]

end Go.Ev
end

section
/-
  FUNCTION 13: printed by a program of our own (wip/gen/st.py). 'masthead/mastheadlaw24.later', in continuation form; the evaluator gives it.
-/
set_option linter.all false
set_option maxRecDepth 100000
namespace Go.Ev
open Go.Proofs
variable {A : Type}

-- ============================================================ later (function 13)
def later_p (n : Nat) (a0 : Int) (a1 : Int) (k : Int → Option A) : Option A :=
  k (IntKind.wrap .i64 (a0 + (imin (imax a1 0) 1048576)))

def later_k (n : Nat) (a0 : Int) (a1 : Int) (k : Int → Option A) : Option A := later_p n a0 a1 k

noncomputable def later_E (n : Nat) : Env A := ⟨tys, gls, [], [], []⟩
theorem later_T {A : Type} (n : Nat) : TyOK Try.prog (later_E (A := A) n) := tyOK_of rfl tysB
theorem later_fns (n : Nat) : FnsOK Try.prog (later_E (A := A) n) := AllOK.env rfl rfl AllOK.nil
theorem later_eqg (n : Nat) (a0 : Int) (a1 : Int) (k : AV → List Blk → Option A) : fnK (later_E n) Try.f13 [.pure] [.p (.int .i64) a0, .p (.int .i64) a1] [] k = later_p n a0 a1 (fun r0 => k (.p (.int .i64) r0) []) := by kernel_rfl
theorem later_eq (n : Nat) (a0 : Int) (a1 : Int) (k : AV → List Blk → Option A) : fnK (later_E n) Try.f13 [.pure] [.p (.int .i64) a0, .p (.int .i64) a1] [] k = later_k n a0 a1 (fun r0 => k (.p (.int .i64) r0) []) := later_eqg n a0 a1 k
def later_ent (g : Int → Int → (Int → Option A) → Option A) : Entry A := pureE fun args k => args2 args (.int .i64) (.int .i64) fun a0 a1 => g a0 a1 (fun r0 => k (.p (.int .i64) r0) [])
theorem later_lo (n : Nat) : ∀ c, Try.f13.body = some c → ∀ q ∈ loopsOf 0 c, ∀ L, (later_E (A := A) n).lps.lookup q.1 = some L → LoopOK Try.prog gls q.2 L :=
  lo_body (E := later_E n) (by kernel_rfl : Try.f13.body = some (bodyOf Try.f13)) (lo_of (E := later_E n) (by kernel_rfl : loopsOf 0 (bodyOf Try.f13) = []) lo_nil)
theorem later_ok (n : Nat) : FnOK Try.prog gls 13 (later_ent (A := A) (later_k n)) :=
  FnOK.of (later_T n) (later_fns n) follows ⟨Try.func13, by kernel_rfl⟩ (later_lo n) (rm := [.pure]) fun args k out h => by
    obtain ⟨a0, a1, e, h1⟩ := args2_sound h
    subst e; rw [later_eq]; exact h1

end Go.Ev
end

