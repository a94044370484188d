import Derived.Test.YtodbnnfiadcbaaaVcF
/- Functions, loops, calls. -/
set_option linter.unusedVariables false
set_option linter.unusedSimpArgs false
set_option linter.unusedSectionVars false
namespace Go.V
open Go.RowKit
variable [Wid]

def sub : List Nat → List Nat → Bool
 | [], _ => true
 | i :: r, m => m.contains i && sub r m
theorem sub_spec : ∀ {l m : List Nat}, sub l m = true → ∀ i, AS.um m i = true → AS.um l i = true
 | [], m, _, i, _ => rfl
 | j :: r, m, h, i, hi => by
  simp only [sub, Bool.and_eq_true] at h
  have ih := sub_spec h.2 i hi
  simp only [AS.um, List.contains_cons, Bool.not_or, Bool.and_eq_true] at ih hi ⊢
  refine ⟨?_, ih⟩
  cases hq : (i == j) with
  | false => rfl
  | true =>
   have : i = j := by simpa using hq
   subst this
   rw [h.1] at hi; cases hi

def M (P : Program) (f : FuncId) (h : List AO) (xs : List AV) (mv : List Nat) (Q : List AO → AV → Prop) : Prop :=
 Ent P f ∧ ∀ own hd w vs, Rel own hd h w → ArgsR w own hd xs vs → Calls P f vs w fun e w' =>
  ∃ v r h' own' hd', e = .returned v ∧ Rel own' hd' h' w' ∧ Fr w own w' own' ∧ Stay own hd own' hd' (AS.um mv) ∧ VR w' own' hd' r v ∧ Q h' r

theorem sub_has {l m : List Nat} (h : sub l m = true) (i : Nat) (hi : l.contains i = true) : m.contains i = true := by
 cases hm : m.contains i with
 | true => rfl
 | false =>
  have := sub_spec h i (by simp only [AS.um, hm, Bool.not_false])
  simp only [AS.um, hi] at this
  cases this
def below (e : Nat) : List Nat → List Nat
 | [] => []
 | i :: r => bif Nat.blt i e then i :: below e r else below e r
theorem below_has {e i : Nat} : ∀ {m : List Nat}, m.contains i = true → Nat.blt i e = true → (below e m).contains i = true
 | j :: r, h, hi => by
  unfold below
  simp only [List.contains_cons, Bool.or_eq_true] at h
  rcases h with h | h
  ·obtain rfl : i = j := by simpa using h
   simp [hi]
  ·have ih := below_has h hi
   cases Nat.blt j e with
   | true => simp only [cond_true, List.contains_cons, ih, Bool.or_true]
   | false => simpa only [cond_false] using ih

def vRes (τ : Tys) (σ : AS) : List ResultVar → (List AV → Prop) → Prop
 | [], K => K []
 | .tmp t :: r, K => vRes τ σ r fun l => K (σ.ev (.tmp t) :: l)
 | .cell x t :: r, K => vLoad τ σ.h t (σ.ev (.tmp x)) fun y => vRes τ σ r fun l => K (y :: l)
def one : List AV → AV
 | [x] => x
 | l => .tup l

section
variable {P : Program} {τ : Tys} {C : Ctx} {w : World} {own : Own} {hd : Hd} {σ : AS} {a : Act}

def resS (tmps : Array Value) (r : ResultVar) : Sem Value :=
 match r with
 | .tmp t => pure (tmps.getD t undef)
 | .cell x t => do loadVar t (← asAddr (tmps.getD x undef))
theorem results_eq (fn : Func) (tmps : Array Value) : results fn tmps = (do let vs ← fn.results.mapM (resS tmps); pure (if h : vs.size = 1 then vs[0] else .tuple vs)) := by
 unfold results
 congr 1

theorem vRes_ok (hτ : Tab P τ) (h : SX C own hd σ a w) : ∀ (rs : List ResultVar) (K : List AV → Prop), vRes τ σ rs K →
 ∃ vs l, (rs.mapM (resS a.tmps)).run P w = .ok vs w ∧
  vs.length = l.length ∧ (∀ (i : Nat) (x : AV) (v : Value), l[i]? = some x → vs[i]? = some v → VR w own hd x v) ∧ K l
 | [], K, hK => ⟨[], [], by simp, rfl, fun i x v h => by simp at h, hK⟩
 | .tmp t :: r, K, hK => by
  obtain ⟨vs, l, h1, h2, h3, h4⟩ := vRes_ok hτ h r _ hK
  refine ⟨a.tmps.getD t undef :: vs, _, by simp only [List.mapM_cons, resS, Sem.run_bind, Sem.run_pure, Result.andThen_ok, h1], by simp [h2], fun i x v hx hv => ?_, h4⟩
  cases i with
  | zero => obtain rfl := Option.some.inj hx; obtain rfl := Option.some.inj hv; exact h.ev (.tmp t)
  | succ i => exact h3 i x v hx hv
 | .cell x t :: r, K, hK => by
  have hKl : vLoad τ σ.h t (σ.ev (.tmp x)) (fun y => vRes τ σ r fun l => K (y :: l)) := hK
  obtain ⟨u, y, _, _, _, g1, g2, g3⟩ := vLoad_ok (P := P) hτ h.rel (h.ev (.tmp x)) hKl
  have g1 := g1 w rfl
  obtain ⟨vs, l, h1, h2, h3, h4⟩ := vRes_ok hτ h r _ g3
  unfold vLoad at hKl
  have hKv := hKl
  have hx0 : (resS a.tmps (.cell x t)).run P w = .ok u w := by
   have e : a.eval (.tmp x) = a.tmps.getD x undef := rfl
   obtain ⟨b, o, _, _, e2, _⟩ := vAt_ok h.rel (h.ev (.tmp x)) (K := _) hKv
   rw [e] at e2
   rw [e, e2] at g1
   simp only [resS, e2]
   simpa [Instr.loadAt, Instr.sureAddr, asAddr] using g1
  refine ⟨u :: vs, _, by simp only [List.mapM_cons, hx0, Sem.run_bind, Sem.run_pure, Result.andThen_ok, h1], by simp [h2], fun i z v hz hv => ?_, h4⟩
  cases i with
  | zero => obtain rfl := Option.some.inj hz; obtain rfl := Option.some.inj hv; exact g2
  | succ i => exact h3 i z v hz hv

theorem one_ok {l : List AV} {vs : List Value} (hl : vs.length = l.length) (h : ∀ (i : Nat) (x : AV) (v : Value), l[i]? = some x → vs[i]? = some v → VR w own hd x v) :
 VR w own hd (one l) (if h : vs.toArray.size = 1 then vs.toArray[0] else .tuple vs.toArray) := by
 have tup : vs.length ≠ 1 → VR w own hd (.tup l) (if h : vs.toArray.size = 1 then vs.toArray[0] else .tuple vs.toArray) := fun hn => by
  rw [dif_neg (by simpa using hn)]
  exact .tup (by simpa using hl) (fun i x v hx hv => h i x v hx (by simpa using hv))
 cases l with
 | nil => exact tup (by rw [hl]; simp)
 | cons x l =>
  cases l with
  | cons y l => exact tup (by rw [hl]; simp)
  | nil =>
   cases vs with
   | nil => simp at hl
   | cons v vs =>
    cases vs with
    | cons u vs => simp at hl
    | nil => exact h 0 x v rfl rfl

def bodyQ (τ : Tys) (en : Nat) (rs : Array ResultVar) (mv : List Nat) (Q : List AO → AV → Prop) (e : Exit) (σ : AS) : Prop :=
 match e with
 | .normal | .ret => vRes τ σ rs.toList fun l => bif sub (below en σ.m) mv then Q σ.h (one l) else False
 | _ => False

theorem M.enter (hτ : Tab P τ) {f : FuncId} {fn : Func} (hf : P.funcs[f]? = some fn) {c : Code} (hb : fn.body = some c) (hname : (fn.name == "runtime.NumGoroutine") = false)
 {h : List AO} {xs : List AV} (hn : xs.length ≤ fn.ntmps) {mv : List Nat} {Q : List AO → AV → Prop}
 (hK : vCode P τ c (bodyQ τ h.length fn.results mv Q) ⟨fn.ntmps, fun i => xs.getD i .junk, h, [], h.length⟩) : M P f h xs mv Q := by
 refine ⟨⟨fn, c, hf, hname, hb⟩, fun own hd w vs hr ha => ?_⟩
 refine calls_of_wp hf hb ?_
 have hs : SX ⟨w, own, hd, h.length, []⟩ own hd ⟨fn.ntmps, fun i => xs.getD i .junk, h, [], h.length⟩ { tmps := vs ++ Array.replicate (fn.ntmps - vs.size) undef, defers := [] } w := by
  refine ⟨hr, Fr.refl _ _, fun r b _ hb => ⟨rfl, hb⟩, fun i hi => hi, Nat.le_refl _, rfl, by have := ha.1; simp; omega, fun i hi => ?_⟩
  simp only [List.getD_eq_getElem?_getD, Array.getD_eq_getD_getElem?]
  cases hx : xs[i]? with
  | none => exact .junk
  | some x =>
   have hlt : i < vs.size := by rw [ha.1]; exact (List.getElem?_eq_some_iff.1 hx).1
   rw [Array.getElem?_append_left hlt, Array.getElem?_eq_getElem hlt]
   exact ha.2 i x _ hx (Array.getElem?_eq_getElem hlt)
 refine wp_mono ((vCode_ok hτ c _ _ hK).run _ own hd _ w hs) fun e a' w' ⟨σ', own', hd', k1, k2, _⟩ => ?_
 have fin : bodyQ τ h.length fn.results mv Q .ret σ' → a'.defers = [] ∧ ∃ v, (results fn a'.tmps).run P w' = .ok v w' ∧ ∃ v' r h' own' hd', Ending.returned v = .returned v' ∧ Rel own' hd' h' w' ∧ Fr w own w' own' ∧ Stay own hd own' hd' (AS.um mv) ∧ VR w' own' hd' r v' ∧ Q h' r := fun hk => by
  obtain ⟨vs', l, g1, g2, g3, g45⟩ := vRes_ok (P := P) hτ k1 _ _ hk
  obtain ⟨g4, g5⟩ := bif_and g45
  refine ⟨k1.dfr, _, ?_, _, one l, σ'.h, own', hd', rfl, k1.rel, k1.fr, fun r b hr' hb' => k1.stay r b (by
   have hlt := Nat.blt_eq.mpr (hr.dom b r hb').2
   simp only [Ctx.um, hlt, Bool.true_and]
   cases hq : σ'.m.contains r.1 with
   | false => rfl
   | true => have := sub_spec g4 _ hr'; simp only [AS.um, below_has hq hlt] at this; cases this) hb', one_ok g2 g3, g5⟩
  rw [results_eq, ← Array.toArray_toList (xs := fn.results), List.mapM_toArray, map_eq_pure_bind]
  simp only [Sem.run_bind, g1, Result.andThen_ok, Sem.run_pure]
 cases e with
 | normal => exact fin k2
 | ret => exact fin k2
 | _ => exact k2.elim

theorem M.mono {f : FuncId} {h : List AO} {xs : List AV} {mv : List Nat} {Q Q' : List AO → AV → Prop} (hm : M P f h xs mv Q) (hq : ∀ h r, Q h r → Q' h r) : M P f h xs mv Q' :=
 ⟨hm.1, fun own hd w vs hr ha => (hm.2 own hd w vs hr ha).mono fun e w' ⟨v, r, h', own', hd', e1, e2, e3, e4, e5, e6⟩ => ⟨v, r, h', own', hd', e1, e2, e3, e4, e5, hq _ _ e6⟩⟩

end
end Go.V
