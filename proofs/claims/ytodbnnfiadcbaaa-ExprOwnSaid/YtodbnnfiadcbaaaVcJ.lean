import Derived.Test.YtodbnnfiadcbaaaVcI
import Derived.OrdersHeld
/- Regions whose order is drawn. -/
set_option linter.unusedVariables false
set_option linter.unusedSimpArgs false
set_option linter.unusedSectionVars false
namespace Go.V
open Go.RowKit
variable [Wid]

abbrev Pn := List (Nat × (World → Prop))
def cutP (R : Nat → Nat → Bool) (j : Nat) (pend : Pn) : Pn := pend.filter fun p => !R j p.1
def Clo (md : Region.Mode) (ops : Array Oper) (listed : Array Bool) : Prop :=
 ∀ j o, listed.getD j false = true → ops[j]? = some o → ∀ e ∈ o.after, Region.binds md e = true → listed.getD e.on false = true
def Beh (md : Region.Mode) (ops : Array Oper) (R : Nat → Nat → Bool) : Prop :=
 ∀ j i, R j i = true → ∃ o, ops[j]? = some o ∧ ∃ e ∈ o.after, Region.binds md e = true ∧ e.on < j ∧ (e.on = i ∨ R e.on i = true)

section
variable {P : Program} {ops : Array Oper} {Q : Exit → Act → World → Prop} {md : Region.Mode} {R : Nat → Nat → Bool}

theorem Beh.lists (hR : Beh md ops R) {listed : Array Bool} (hc : Clo md ops listed) : ∀ (n j i : Nat), j < n → listed.getD j false = true → R j i = true → listed.getD i false = true := by
 intro n
 induction n with
 | zero => intro j i h; cases h
 | succ n ih =>
  intro j i hj hl hr
  obtain ⟨o, ho, e, he, hb, hlt, h⟩ := hR j i hr
  have h1 := hc j o hl ho e he hb
  rcases h with h | h
  ·exact h ▸ h1
  ·exact ih e.on i (by omega) h1 h
theorem Beh.ready (hR : Beh md ops R) {listed : Array Bool} (hc : Clo md ops listed) {j i : Nat} (hj : j ∈ Region.ready md ops listed) (hr : R j i = true) : listed.getD i false = true := by
 obtain ⟨_, o', ho', hall⟩ := mem_ready.1 hj
 obtain ⟨o, ho, e, he, hb, hlt, h⟩ := hR j i hr
 rw [ho] at ho'; obtain rfl := Option.some.inj ho'
 have h1 := hall e he hb
 rcases h with h | h
 ·exact h ▸ h1
 ·exact hR.lists hc (e.on + 1) e.on i (Nat.lt_succ_self _) h1 h
theorem Clo.set {listed : Array Bool} (hc : Clo md ops listed) {j : Nat} (hj : j ∈ Region.ready md ops listed) : Clo md ops (listed.setIfInBounds j true) := by
 intro k o hk ho e he hb
 by_cases hkj : j = k
 ·subst hkj
  obtain ⟨_, o', ho', hall⟩ := mem_ready.1 hj
  rw [ho] at ho'; obtain rfl := Option.some.inj ho'
  exact getD_set_true (hall e he hb)
 ·rw [getD_set_ne false hkj] at hk
  exact getD_set_true (hc k o hk ho e he hb)
theorem Clo.none (n : Nat) : Clo md ops (Array.replicate n false) := by
 intro j o h
 have : (Array.replicate n false).getD j false = false := by
  rw [Array.getD_eq_getD_getElem?, Array.getElem?_replicate]
  split <;> rfl
 rw [this] at h; cases h

def wpAnyR (P : Program) (md : Region.Mode) (ops : Array Oper) (Q : Exit → Act → World → Prop) (R : Nat → Nat → Bool) : Nat → Array Bool → Pn → Act → World → Prop
 | 0, listed, _, a, w => Region.ready md ops listed = [] ∧ Q .normal a w
 | fuel + 1, listed, pend, a, w =>
  (Region.ready md ops listed = [] → Q .normal a w) ∧
  ∀ j ∈ Region.ready md ops listed, wpOp P ops Q j (fun a' w' => (∀ p ∈ cutP R j pend, p.2 w') ∧ wpAnyR P md ops Q R fuel (listed.setIfInBounds j true) (cutP R j pend) a' w') a w

theorem wpAny_of_R : ∀ (fuel : Nat) (listed : Array Bool) (pend : Pn) (a : Act) (w : World), wpAnyR P md ops Q R fuel listed pend a w → wpAny P md ops Q fuel listed a w
 | 0, _, _, _, _, h => h
 | fuel + 1, _, _, _, _, h => ⟨h.1, fun i hi => wpOp_mono (fun a' w' h' => wpAny_of_R fuel _ _ a' w' h'.2) (h.2 i hi)⟩

theorem wpAnyR_sub : ∀ (fuel : Nat) (listed : Array Bool) (pend pend' : Pn) (a : Act) (w : World), (∀ p ∈ pend', p ∈ pend) → wpAnyR P md ops Q R fuel listed pend a w → wpAnyR P md ops Q R fuel listed pend' a w
 | 0, _, _, _, _, _, _, h => h
 | fuel + 1, _, pend, pend', _, _, hs, h => ⟨h.1, fun i hi => wpOp_mono (fun a' w' h' => by
  have hs' : ∀ p ∈ cutP R i pend', p ∈ cutP R i pend := fun p hp => by
   obtain ⟨h1, h2⟩ := List.mem_filter.1 hp
   exact List.mem_filter.2 ⟨hs p h1, h2⟩
  exact ⟨fun p hp => h'.1 p (hs' p hp), wpAnyR_sub fuel _ _ _ a' w' hs' h'.2⟩) (h.2 i hi)⟩

theorem cutP_sub {j : Nat} {pend : Pn} : ∀ p ∈ cutP R j pend, p ∈ pend := fun _ hp => (List.mem_filter.1 hp).1

theorem wpAnyR_first (hR : Beh md ops R) {i : Nat} {oi : Oper} {v : Value} {S : World → Prop} (hi : ops[i]? = some oi) (hsel : ∀ (j : Nat) (o : Oper) cs b, ops[j]? = some o → o.op ≠ .select cs b)
 (hQ : ∀ c a w, Q (.panic c) (a.put oi.dst v) w → Q (.panic c) a w) :
 ∀ (fuel : Nat) (listed : Array Bool) (pend : Pn) (a : Act) (w : World), Clo md ops listed →
  (∀ j oj, ops[j]? = some oj → j ≠ i → listed.getD j true = false → (∀ e ∈ oj.after, Region.binds md e = true → e.on ≠ i) → oi.apart ops oj = true) →
  i ∈ Region.ready md ops listed → YieldsIf P ops S oi v a → S w → (∀ p ∈ pend, p.2 w) →
  wpAnyR P md ops Q R fuel (listed.setIfInBounds i true) ((i, S) :: pend) (a.put oi.dst v) w → wpAnyR P md ops Q R (fuel + 1) listed pend a w := by
 intro fuel
 have now : ∀ (fuel : Nat) (listed : Array Bool) (pend : Pn) (a : Act) (w : World), YieldsIf P ops S oi v a → S w → (∀ p ∈ pend, p.2 w) → wpAnyR P md ops Q R fuel (listed.setIfInBounds i true) ((i, S) :: pend) (a.put oi.dst v) w →
  wpOp P ops Q i (fun a' w' => (∀ p ∈ cutP R i pend, p.2 w') ∧ wpAnyR P md ops Q R fuel (listed.setIfInBounds i true) (cutP R i pend) a' w') a w :=
  fun fuel listed pend a w hy hS hp H => hy.wpOp hi hS ⟨fun p h => hp p (cutP_sub p h), wpAnyR_sub _ _ _ _ _ _ (fun p h => List.mem_cons_of_mem _ (cutP_sub p h)) H⟩
 induction fuel with
 | zero =>
  intro listed pend a w hc _ hr hy hS hp H
  refine ⟨fun h => (by rw [h] at hr; cases hr), fun j hj => ?_⟩
  by_cases hji : j = i
  ·subst hji; exact now 0 listed pend a w hy hS hp H
  ·have := ready_mono hj hji
   rw [H.1] at this
   cases this
 | succ fuel ih =>
  intro listed pend a w hc hfree hr hy hS hp H
  refine ⟨fun h => (by rw [h] at hr; cases hr), fun j hj => ?_⟩
  by_cases hji : j = i
  ·subst hji; exact now _ listed pend a w hy hS hp H
  ·have h1 := H.2 j (ready_mono hj hji)
   obtain ⟨hjun, oj, hoj, hall⟩ := mem_ready.1 hj
   have hiun : listed.getD i false = false := by
    have h0 := (mem_ready.1 hr).1
    rcases Nat.lt_or_ge i listed.size with h' | h'
    ·simp [h'] at h0 ⊢; exact h0
    ·simp [Array.getElem?_eq_none h'] at h0
   have hnot : ∀ e ∈ oj.after, Region.binds md e = true → e.on ≠ i := fun e he hb heq => by
    have h1 := hall e he hb
    rw [heq, hiun] at h1
    cases h1
   have hRji : R j i = false := by
    cases hq : R j i with
    | false => rfl
    | true => have := hR.ready hc hj hq; rw [hiun] at this; cases this
   have hcut : cutP R j ((i, S) :: pend) = (i, S) :: cutP R j pend := by simp [cutP, hRji]
   rw [hcut] at h1
   have h2 := wpOp_putIf hoj (hfree j oj hoj hji hjun hnot) (fun cs b => hsel i oi cs b hi) (fun cs b => hsel j oj cs b hoj) hQ hy h1
   have hfree' : ∀ k ok, ops[k]? = some ok → k ≠ i → (listed.setIfInBounds j true).getD k true = false →
    (∀ e ∈ ok.after, Region.binds md e = true → e.on ≠ i) → oi.apart ops ok = true := fun k ok hk hki hun hno => by
    refine hfree k ok hk hki ?_ hno
    by_cases hjk : j = k
    ·subst hjk; exact hjun
    ·rw [getD_set_ne true hjk] at hun; exact hun
   refine wpOp_mono (fun a' w' h3 => ?_) h2
   obtain ⟨h3, h4, h5⟩ := h3
   have hp' : ∀ p ∈ cutP R j pend, p.2 w' := fun p hp => h4 p (List.mem_cons_of_mem _ hp)
   refine ⟨hp', ih (listed.setIfInBounds j true) (cutP R j pend) a' w' (hc.set hj) hfree' (ready_mono hr (Ne.symm hji)) h3 (h4 (i, S) (List.mem_cons_self ..)) hp' ?_⟩
   rw [Array.setIfInBounds_comm _ _ hji]
   exact h5

theorem wpAnyR_done {listed : Array Bool} {pend : Pn} {a : Act} {w : World} (hr : Region.ready md ops listed = []) (h : Q .normal a w) :
 ∀ fuel, wpAnyR P md ops Q R fuel listed pend a w
 | 0 => ⟨hr, h⟩
 | _ + 1 => ⟨fun _ => h, by rw [hr]; simp⟩
end

inductive Pl where
 | nil
 | take (i : Nat) (p : Pl)
 | only (i : Nat) (p : Pl)
 | alt (x y : Pl)

def tk : List Nat → Pl → Pl
 | [], p => p
 | i :: r, p => .take i (tk r p)

def Pl.hds : Pl → List Nat
 | .only i _ => [i]
 | .alt x y => x.hds ++ y.hds
 | _ => []
def Pl.deep : Pl → Nat
 | .nil => 0
 | .take _ p | .only _ p => p.deep + 1
 | .alt x y => Nat.max x.deep y.deep
theorem hds_deep : ∀ (p : Pl) (j : Nat), j ∈ p.hds → 1 ≤ p.deep
 | .nil, _, h => by simp [Pl.hds] at h
 | .take _ _, _, _ => by simp [Pl.deep]
 | .only _ _, _, _ => by simp [Pl.deep]
 | .alt x y, j, h => by
  simp only [Pl.hds, List.mem_append] at h
  rcases h with h | h
  ·exact Nat.le_trans (hds_deep x j h) (Nat.le_max_left _ _)
  ·exact Nat.le_trans (hds_deep y j h) (Nat.le_max_right _ _)
def planOk (ops : Array Oper) : Bool → Pl → Array Bool → Bool
 | _, .nil, L => (Region.ready .any ops L).isEmpty
 | _, .take i p, L => (Region.ready .any ops L).contains i && Region.free .any ops L i && planOk ops true p (L.setIfInBounds i true)
 | b, .only i p, L => (!b || (!(Region.ready .any ops L).isEmpty && (Region.ready .any ops L).all fun j => Nat.beq j i)) && planOk ops true p (L.setIfInBounds i true)
 | b, .alt x y, L => (!b || (!(Region.ready .any ops L).isEmpty && (Region.ready .any ops L).all fun j => (x.hds ++ y.hds).contains j)) && planOk ops false x L && planOk ops false y L

def btab (t : List Nat) (j i : Nat) : Bool := Nat.testBit (t.getD j 0) i
def behOk1 (t : List Nat) (n j : Nat) (ds : List Nat) : Bool :=
 (List.range n).all fun i => !Nat.testBit (t.getD j 0) i || ds.any fun k => Nat.blt k j && (Nat.beq k i || Nat.testBit (t.getD k 0) i)
def deps (o : Oper) : List Nat := (o.after.toList.filter (Region.binds .any)).map (·.on)
def behOk (t : List Nat) (n : Nat) : List Oper → Nat → Bool
 | [], _ => true
 | o :: r, j => behOk1 t n j (deps o) && behOk t n r (j + 1)

def ownLoad (σ : AS) (o : Op) : Bool := match o with
 | .load _ x => match σ.ev x with
  | .pT _ _ => false
  | _ => true
 | _ => false

def vAny (P : Program) (τ : Tys) (ops : Array Oper) (R : Nat → Nat → Bool) : Pl → List Nat → (AS → Prop) → AS → Prop
 | .nil, _, K, σ => K σ
 | .take i p, pw, K, σ => match ops[i]? with
  | none => False
  | some o => vGd ops σ o (fun σ => match opk o.op with
   | .q => bif Op.fine o.op then vQ τ σ o.op fun x => σ.set o.dst x (vAny P τ ops R p (bif ownLoad σ o.op then i :: pw else pw) K) else False
   | .e => match o.op with
    | .build t parts => vBuild τ σ t parts fun x => σ.set o.dst x (vAny P τ ops R p pw K)
    | _ => False
   | _ => False) (fun σ => σ.set o.dst (.tup []) (vAny P τ ops R p pw K))
 | .only i p, pw, K, σ => match ops[i]? with
  | none => False
  | some o => vGd ops σ o (fun σ => bif pw.all (R i) then vOp P τ σ o (vAny P τ ops R p [] K) else False) (fun σ => σ.set o.dst (.tup []) (vAny P τ ops R p pw K))
 | .alt x y, pw, K, σ => vAny P τ ops R x pw K σ ∧ vAny P τ ops R y pw K σ

section
variable {P : Program} {τ : Tys} {C : Ctx} {w : World} {own : Own} {hd : Hd} {σ : AS} {a : Act} {ops : Array Oper} {R : Nat → Nat → Bool}

theorem vBuild_ok (hτ : Tab P τ) (h : SX C own hd σ a w) {t : TypeId} {parts : Array (Nat × Operand)} {ty : TypeId} {K : AV → Prop} (hK : vBuild τ σ t parts K) :
 QOk P own hd a w (.build t parts) ty K fun _ => True := by
 unfold vBuild at hK
 simp only at hK
 split at hK
 ·rename_i fs hk
  cases hc : fs.all (fun f => (τ f.2).k.ok?) with
  | false => simp only [hc, cond_false] at hK
  | true =>
   simp only [hc, cond_true] at hK
   split at hK
   ·rename_i cs hcs
    obtain ⟨i, d, z, hi, hd', hz, htk, hn, _, hzc⟩ := hτ.get hk (by simp)
    obtain ⟨fl, rfl, rfl⟩ := tk_st htk
    rw [← hzc] at hcs
    obtain ⟨vs, f1, f2⟩ := vFill_ok _ _ _ _ _ (cells0_ok (w := w) (own := own) (hd := hd) z.cells) (by simp) (parts_ok h parts) hcs
    have hok : ∀ f ∈ fl.toList, (τ f.type).k ≠ .bad := fun f hf e => by
     have := List.all_eq_true.1 hc (f.offset, f.type) (List.mem_map.2 ⟨f, hf, rfl⟩)
     simp only [e] at this
     cases this
    have hplA : ∀ w0, (fl.mapM fun f => (do pure (f.offset, ← sizeOf f.type) : Sem (Nat × Nat))).run P w0 = .ok ((fl.toList.map fun f => (f.offset, (τ f.type).n)).toArray) w0 := fun w0 => by
     rw [← Array.toArray_toList (xs := fl), List.mapM_toArray, map_eq_pure_bind, Sem.run_bind, run_places hτ fl.toList hok w0]
     rfl
    refine ⟨.agg vs, _, fun _ _ _ _ w0 _ => ?_, .agg f2.1 f2.2, hK⟩
    have hfun : (fun (i : Nat) => ((fl.toList.map fun f => (f.offset, f.type))[i]?).map fun (f : Nat × TypeId) => (f.1, (τ f.2).n)) = fun (i : Nat) => ((fl.toList.map fun f => (f.offset, (τ f.type).n)).toArray)[i]? := by
     funext i
     simp [List.getElem?_map, Option.map_map, Function.comp_def]
    rw [hfun] at f1
    simp only [execOp, Instr.build, Sem.run_bind, zero_run hi hz, Result.andThen_ok, run_underlying hd', hplA]
    simp only [f1]
    rfl
   ·exact hK.elim
 ·rename_i len e hk
  cases hc : (τ e).k.ok? with
  | false => simp only [hc, cond_false] at hK
  | true =>
   simp only [hc, cond_true] at hK
   have hb : (τ e).k ≠ .bad := fun e' => by rw [e'] at hc; cases hc
   split at hK
   ·rename_i cs hcs
    obtain ⟨i, d, z, hi, hd', hz, htk, hn, _, hzc⟩ := hτ.get hk (by simp)
    obtain rfl := tk_ar htk
    rw [← hzc] at hcs
    obtain ⟨vs, f1, f2⟩ := vFill_ok _ _ _ _ _ (cells0_ok (w := w) (own := own) (hd := hd) z.cells) (by simp) (parts_ok h parts) hcs
    refine ⟨.agg vs, _, fun _ _ _ _ w0 _ => ?_, .agg f2.1 f2.2, hK⟩
    simp only [execOp, Instr.build, Sem.run_bind, zero_run hi hz, Result.andThen_ok, run_underlying hd', tk_sizeOf hτ w0 hb]
    simp only [f1]
    rfl
   ·exact hK.elim
 ·exact hK.elim

theorem SX.loc (h : SX C own hd σ a w) : SX ⟨w, own, hd, C.e, σ.m⟩ own hd σ a w :=
 ⟨h.rel, Fr.refl _ _, fun r b _ hb => ⟨rfl, hb⟩, fun _ h => h, h.le, h.dfr, h.size, h.slot⟩
theorem SX.glue (h : SX C own hd σ a w) {own' : Own} {hd' : Hd} {σ' : AS} {a' : Act} {w' : World} (h' : SX ⟨w, own, hd, C.e, σ.m⟩ own' hd' σ' a' w') : SX C own' hd' σ' a' w' :=
 ⟨h'.rel, h.fr.trans h'.fr, h.stay.trans h'.stay (fun i hi => by
  simp only [Ctx.um, Bool.and_eq_true] at hi ⊢
  refine ⟨⟨hi.1, ?_⟩, hi⟩
  cases hq : σ.m.contains i with
  | false => rfl
  | true => have := h'.gr i hq; rw [this] at hi; cases hi.2), fun i hi => h'.gr i (h.gr i hi), h'.le, h'.dfr, h'.size, h'.slot⟩

theorem behOk_get {t : List Nat} {n : Nat} : ∀ {l : List Oper} {j0 : Nat}, behOk t n l j0 = true → ∀ (j : Nat) (o : Oper), l[j]? = some o → behOk1 t n (j0 + j) (deps o) = true
 | [], _, _, j, o, h => by simp at h
 | x :: r, j0, hb, j, o, h => by
  simp only [behOk, Bool.and_eq_true] at hb
  cases j with
  | zero => obtain rfl := Option.some.inj h; exact hb.1
  | succ j => have := behOk_get hb.2 j o h; rwa [show j0 + 1 + j = j0 + (j + 1) by omega] at this
theorem beh_of {t : List Nat} (ht : t.length ≤ ops.size) (hn : ∀ m ∈ t, m < 2 ^ ops.size) (h : behOk t ops.size ops.toList 0 = true) : Beh .any ops (btab t) := by
 intro j i hji
 have hj : j < t.length := by
  rcases Nat.lt_or_ge j t.length with h | h
  ·exact h
  ·rw [btab, List.getD_eq_getElem?_getD, List.getElem?_eq_none h] at hji; simp at hji
 have hlt : i < ops.size := by
  have hm : t.getD j 0 < 2 ^ ops.size := by
   rw [List.getD_eq_getElem?_getD, List.getElem?_eq_getElem hj]
   exact hn _ (List.getElem_mem hj)
  rcases Nat.lt_or_ge i ops.size with h | h
  ·exact h
  ·rw [btab, Nat.testBit_lt_two_pow (Nat.lt_of_lt_of_le hm (Nat.pow_le_pow_right (by decide) h))] at hji; cases hji
 have hjo : j < ops.size := Nat.lt_of_lt_of_le hj ht
 have hb := behOk_get h j ops[j] (by simp [hjo])
 simp only [Nat.zero_add, behOk1, List.all_eq_true, List.mem_range, Bool.or_eq_true, Bool.not_eq_true', List.any_eq_true, Bool.and_eq_true] at hb
 rcases hb i hlt with h1 | ⟨k, hk, h1, h2⟩
 ·rw [btab, h1] at hji; cases hji
 ·obtain ⟨e, he, rfl⟩ := List.mem_map.1 hk
  obtain ⟨he1, he2⟩ := List.mem_filter.1 he
  exact ⟨ops[j], Array.getElem?_eq_getElem hjo, e, by simpa using he1, he2, Nat.blt_eq.mp h1, h2.imp (fun h => Nat.eq_of_beq_eq_true h) id⟩

def Good (own : Own) (w : World) (S : World → Prop) : Prop := ∀ w' own', Fr w own w' own' → S w'
def PInv (pend : Pn) (pw : List Nat) (own : Own) (w : World) : Prop := ∀ p ∈ pend, Good own w p.2 ∨ (pw.contains p.1 = true ∧ p.2 w)
theorem PInv.now {pend : Pn} {pw : List Nat} (h : PInv pend pw own w) : ∀ p ∈ pend, p.2 w := fun p hp => by
 rcases h p hp with h | h
 ·exact h w own (Fr.refl _ _)
 ·exact h.2
theorem Good.step {S : World → Prop} (h : Good own w S) {w' : World} {own' : Own} (f : Fr w own w' own') : Good own' w' S := fun w2 own2 f2 => h w2 own2 (f.trans f2)

theorem wrOps_mem {o : Oper} {d : Nat} : ∀ {l : List Oper}, o ∈ l → wrOps l d = false → (match o.dst with | some x => Nat.beq x d | none => false) = false := by
 intro l
 induction l with
 | nil => intro h; simp at h
 | cons x r ih =>
  intro h hw
  simp only [wrOps, Bool.or_eq_false_iff] at hw
  rcases List.mem_cons.1 h with rfl | h
  ·exact hw.1
  ·exact ih h hw.2

theorem vAny_ok (hτ : Tab P τ) (hR : Beh .any ops R) (hsel : Region.noSelect ops = true) {Q : Exit → Act → World → Prop} (hnp : ∀ c a w, ¬ Q (.panic c) a w) (a0 : Act) :
 ∀ (pl : Pl) (pw : List Nat) (K : AS → Prop) (σ : AS) (own : Own) (hd : Hd) (a : Act) (w : World) (L : Array Bool) (pend : Pn) (fuel : Nat) (b : Bool),
  planOk ops b pl L = true → Clo .any ops L → SX C own hd σ a w → Un (wrOps ops.toList) a0 a → vAny P τ ops R pl pw K σ → PInv pend pw own w → pl.deep ≤ fuel →
  (∀ σ' own' hd' a' w', SX C own' hd' σ' a' w' → K σ' → Un (wrOps ops.toList) a0 a' → Q .normal a' w') →
  (b = true → wpAnyR P .any ops Q R fuel L pend a w) ∧
  (∀ f, fuel = f + 1 → ∀ j ∈ pl.hds, j ∈ Region.ready .any ops L → wpOp P ops Q j (fun a' w' => (∀ p ∈ cutP R j pend, p.2 w') ∧ wpAnyR P .any ops Q R f (L.setIfInBounds j true) (cutP R j pend) a' w') a w) := by
 have un1 : ∀ {i : Nat} {o : Oper} {a a' : Act}, ops[i]? = some o → Un (wrOps ops.toList) a0 a → Un (fun i => match o.dst with | some d => Nat.beq d i | none => false) a a' → Un (wrOps ops.toList) a0 a' := fun {i o a a'} hi h1 h2 =>
  h1.trans (h2.mono fun d hd => wrOps_mem (by obtain ⟨h, rfl⟩ := Array.getElem?_eq_some_iff.1 hi; exact Array.getElem_mem_toList h) hd)
 intro pl
 induction pl with
 | nil =>
  intro pw K σ own hd a w L pend fuel b hp hc h un hK hI hf hQ
  refine ⟨fun _ => wpAnyR_done (by simpa [planOk] using hp) (hQ σ own hd a w h hK un) fuel, fun f _ j hj => by simp [Pl.hds] at hj⟩
 | take i p ih =>
  intro pw K σ own hd a w L pend fuel b hp hc h un hK hI hf hQ
  refine ⟨fun _ => ?_, fun f _ j hj => by simp [Pl.hds] at hj⟩
  simp only [planOk, Bool.and_eq_true] at hp
  obtain ⟨⟨hr, hfr⟩, hp⟩ := hp
  have hr : i ∈ Region.ready .any ops L := by simpa using hr
  simp only [vAny] at hK
  split at hK
  ·exact hK.elim
  ·rename_i o ho
   cases fuel with
   | zero => simp [Pl.deep] at hf
   | succ f =>
    have hf' : p.deep ≤ f := by simp only [Pl.deep] at hf; omega
    obtain ⟨σ1, h1, hor⟩ := vGd_ok h hK
    rcases hor with ⟨hw, hk⟩ | ⟨hw, hk⟩
    ·split at hk
     ·obtain ⟨k1, k2⟩ := bif_and hk
      obtain ⟨dst, op, ty, pos, after, gd⟩ := o
      obtain ⟨v, x, hrun, hx, hK'⟩ := vQ_ok (P := P) (ty := ty) hτ h1 k1 k2
      obtain ⟨σ2, g1, g2⟩ := h1.set hx hK'
      refine wpAnyR_first hR (S := Lk own w σ1 op) (v := v) ho (Region.noSelect_spec hsel) (fun c a w hq => absurd hq (hnp _ _ _)) f L pend a w hc (Region.free_spec ho hfr) hr (.inl ⟨hw, fun w0 hl => hrun _ _ _ _ w0 hl⟩) (Lk.refl _ _ _ _) hI.now ?_
      refine (ih _ K σ2 own hd _ w _ _ f true hp (hc.set hr) g1 (un1 ho un (Un.put a dst v)) g2 ?_ hf' hQ).1 rfl
      intro q hq
      rcases List.mem_cons.1 hq with rfl | hq
      ·cases hol : ownLoad σ1 op with
       | true => exact .inr ⟨by simp, Lk.refl _ _ _ _⟩
       | false =>
        refine .inl fun w' own' fr => ?_
        simp only [ownLoad] at hol
        simp only [Lk]
        split at hol
        ·split at hol
         ·rename_i e
          simp only [e]
          exact fun b hb hn => (fr.blk b hb hn).1
         ·cases hol
        ·rename_i hne
         cases op <;> first | trivial | exact absurd rfl (hne _ _)
      ·rcases hI q hq with h | ⟨h, h'⟩
       ·exact .inl h
       ·refine .inr ⟨?_, h'⟩
        cases ownLoad σ1 op with
        | true => simp only [cond_true, List.contains_cons, h, Bool.or_true]
        | false => exact h
     ·split at hk
      ·rename_i t parts hop
       obtain ⟨dst, op, ty, pos, after, gd⟩ := o
       simp only at hop
       subst hop
       obtain ⟨v, x, hrun, hx, hK'⟩ := vBuild_ok (P := P) (ty := ty) hτ h1 hk
       obtain ⟨σ2, g1, g2⟩ := h1.set hx hK'
       refine wpAnyR_first hR (S := fun _ => True) (v := v) ho (Region.noSelect_spec hsel) (fun c a w hq => absurd hq (hnp _ _ _)) f L pend a w hc (Region.free_spec ho hfr) hr (.inl ⟨hw, fun w0 hl => hrun _ _ _ _ w0 hl⟩) trivial hI.now ?_
       refine (ih _ K σ2 own hd _ w _ _ f true hp (hc.set hr) g1 (un1 ho un (Un.put a dst v)) g2 ?_ hf' hQ).1 rfl
       intro q hq
       rcases List.mem_cons.1 hq with rfl | hq
       ·exact .inl fun _ _ _ => trivial
       ·exact hI q hq
      ·exact hk.elim
     ·exact hk.elim
    ·obtain ⟨σ2, g1, g2⟩ := h1.set (v := undef) VR.undef hk
     refine wpAnyR_first hR (S := fun _ => True) (v := undef) ho (Region.noSelect_spec hsel) (fun c a w hq => absurd hq (hnp _ _ _)) f L pend a w hc (Region.free_spec ho hfr) hr (.inr ⟨hw, rfl⟩) trivial hI.now ?_
     refine (ih _ K σ2 own hd _ w _ _ f true hp (hc.set hr) g1 (un1 ho un (Un.put a o.dst undef)) g2 ?_ hf' hQ).1 rfl
     intro q hq
     rcases List.mem_cons.1 hq with rfl | hq
     ·exact .inl fun _ _ _ => trivial
     ·exact hI q hq
 | only i p ih =>
  intro pw K σ own hd a w L pend fuel b hp hc h un hK hI hf hQ
  simp only [planOk, Bool.and_eq_true] at hp
  obtain ⟨hal, hp⟩ := hp
  have main : ∀ f, fuel = f + 1 → i ∈ Region.ready .any ops L → wpOp P ops Q i (fun a' w' => (∀ p ∈ cutP R i pend, p.2 w') ∧ wpAnyR P .any ops Q R f (L.setIfInBounds i true) (cutP R i pend) a' w') a w := fun f hfu hr => by
   subst hfu
   have hf' : p.deep ≤ f := by simp only [Pl.deep] at hf; omega
   simp only [vAny] at hK
   split at hK
   ·exact hK.elim
   ·rename_i o ho
    obtain ⟨σ1, h1, hor⟩ := vGd_ok h hK
    simp only [wpOp, ho]
    rcases hor with ⟨hw, hk⟩ | ⟨hw, hk⟩
    ·rw [if_pos hw]
     obtain ⟨k1, k2⟩ := bif_and hk
     refine .inl (Oper.wp_mono (fun a' w' ⟨σ', own', hd', s1, s2, s3⟩ => ?_) (vOp_ok hτ h1.loc k2))
     have hpd : ∀ q ∈ cutP R i pend, Good own' w' q.2 := fun q hq => by
      obtain ⟨q1, q2⟩ := List.mem_filter.1 hq
      rcases hI q q1 with g | ⟨g, _⟩
      ·exact g.step s1.fr
      ·rw [List.all_eq_true] at k1
       rw [k1 q.1 (by simpa using g)] at q2
       cases q2
     refine ⟨fun q hq => hpd q hq w' own' (Fr.refl _ _), (ih _ K σ' own' hd' a' w' _ _ f true hp (hc.set hr) (h1.glue s1) (un1 ho un s3) s2 (fun q hq => .inl (hpd q hq)) hf' hQ).1 rfl⟩
    ·rw [if_neg (by rw [hw]; simp)]
     obtain ⟨σ2, g1, g2⟩ := h1.set (v := undef) VR.undef hk
     have hI' : PInv (cutP R i pend) pw own w := fun q hq => hI q (cutP_sub q hq)
     exact ⟨hI'.now, (ih _ K σ2 own hd _ w _ _ f true hp (hc.set hr) g1 (un1 ho un (Un.put a o.dst undef)) g2 hI' hf' hQ).1 rfl⟩
  refine ⟨fun hb => ?_, fun f hfu j hj hr => (show j = i by simpa [Pl.hds] using hj) ▸ main f hfu ((show j = i by simpa [Pl.hds] using hj) ▸ hr)⟩
  subst hb
  simp only [Bool.not_true, Bool.false_or, Bool.and_eq_true, Bool.not_eq_true', List.all_eq_true] at hal
  cases fuel with
  | zero => simp [Pl.deep] at hf
  | succ f =>
   refine ⟨fun h0 => by rw [h0] at hal; simp at hal, fun j hj => ?_⟩
   obtain rfl := Nat.eq_of_beq_eq_true (hal.2 j hj)
   exact main f rfl hj
 | alt x y ihx ihy =>
  intro pw K σ own hd a w L pend fuel b hp hc h un hK hI hf hQ
  simp only [planOk, Bool.and_eq_true] at hp
  obtain ⟨⟨hal, hpx⟩, hpy⟩ := hp
  have hfx : x.deep ≤ fuel := by simp only [Pl.deep] at hf; exact Nat.le_trans (Nat.le_max_left _ _) hf
  have hfy : y.deep ≤ fuel := by simp only [Pl.deep] at hf; exact Nat.le_trans (Nat.le_max_right _ _) hf
  have gx := (ihx pw K σ own hd a w L pend fuel false hpx hc h un hK.1 hI hfx hQ).2
  have gy := (ihy pw K σ own hd a w L pend fuel false hpy hc h un hK.2 hI hfy hQ).2
  have main : ∀ f, fuel = f + 1 → ∀ j ∈ x.hds ++ y.hds, j ∈ Region.ready .any ops L → wpOp P ops Q j (fun a' w' => (∀ p ∈ cutP R j pend, p.2 w') ∧ wpAnyR P .any ops Q R f (L.setIfInBounds j true) (cutP R j pend) a' w') a w := fun f hfu j hj hr => by
   rcases List.mem_append.1 hj with hj | hj
   ·exact gx f hfu j hj hr
   ·exact gy f hfu j hj hr
  refine ⟨fun hb => ?_, main⟩
  subst hb
  simp only [Bool.not_true, Bool.false_or, Bool.and_eq_true, Bool.not_eq_true', List.all_eq_true] at hal
  cases fuel with
  | zero =>
   cases he : Region.ready .any ops L with
   | nil => rw [he] at hal; simp at hal
   | cons j r =>
    have hj : j ∈ (x.hds ++ y.hds) := by have := hal.2 j (by rw [he]; exact List.mem_cons_self ..); simpa using this
    have := hds_deep (.alt x y) j hj
    omega
  | succ f =>
   refine ⟨fun h0 => by rw [h0] at hal; simp at hal, fun j hj => main f rfl j (by have := hal.2 j hj; simpa using this) hj⟩

structure PlanOk (ops : Array Oper) (pl : Pl) (t : List Nat) : Prop where
 sel : Region.noSelect ops = true
 plan : planOk ops true pl (Array.replicate ops.size false) = true
 deep : Nat.ble pl.deep ops.size = true
 len : Nat.ble t.length ops.size = true
 bits : t.all (fun m => Nat.blt m (2 ^ ops.size)) = true
 beh : behOk t ops.size ops.toList 0 = true

theorem CodeV.draw (hτ : Tab P τ) {id : Nat} {Q : Exit → AS → Prop} (pl : Pl) (t : List Nat) (hp : PlanOk ops pl t) (hK : vAny P τ ops (btab t) pl [] (Q .normal) σ) : CodeV P (.region id ops true) Q σ := by
 refine ⟨fun C own hd a w h => ?_⟩
 have hR : Beh .any ops (btab t) := beh_of (Nat.le_of_ble_eq_true hp.len) (fun m hm => Nat.blt_eq.mp (List.all_eq_true.1 hp.bits m hm)) hp.beh
 refine wp_mono (Q := fun e a' w' => e = .normal ∧ ∃ σ' own' hd', SX C own' hd' σ' a' w' ∧ Q e σ' ∧ Un (wr (.region id ops true)) a a') ?_ fun e a' w' hq => hq.2
 refine wp_region_any hτ.mixed (wpAny_of_R (R := btab t) _ _ [] _ _ ?_)
 exact (vAny_ok hτ hR hp.sel (fun c a w hq => nomatch hq.1) a pl [] (Q .normal) σ own hd a _ _ [] ops.size true hp.plan (Clo.none _) h.drew (Un.refl _ _) hK (fun p hp => by cases hp) (Nat.le_of_ble_eq_true hp.deep)
  (fun σ' own' hd' a' w' h1 h2 h3 => ⟨rfl, σ', own', hd', h1, h2, h3⟩)).1 rfl

end
end Go.V
