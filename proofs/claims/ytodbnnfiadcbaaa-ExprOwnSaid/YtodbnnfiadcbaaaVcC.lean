import Derived.Test.YtodbnnfiadcbaaaVcB
/- The operations that leave memory as it is: what they yield. -/
set_option linter.unusedVariables false
set_option linter.unusedSimpArgs false
set_option linter.unusedSectionVars false
namespace Go.V
open Go.RowKit
variable [Wid]

def TK.agg? : TK → Bool
 | .st _ | .ar _ _ => true
 | _ => false
def TK.ok? : TK → Bool
 | .bad => false
 | _ => true

def vBin (op : BinOp) (a b : Value) (K : Value → Prop) : Prop :=
 match a, b with
 | .int k x, .int k' y => bif decide (k = k') then
  match op with
  | .add => K (.int k (k.wrap (x + y)))
  | .sub => K (.int k (k.wrap (x - y)))
  | .mul => K (.int k (k.wrap (x * y)))
  | .quo => y ≠ 0 ∧ K (.int k (k.wrap (x.tdiv y)))
  | .rem => y ≠ 0 ∧ K (.int k (x.tmod y))
  | .eql => K (.bool (x == y))
  | .neq => K (.bool (x != y))
  | .lss => K (.bool (decide (x < y)))
  | .leq => K (.bool (decide (x ≤ y)))
  | .gtr => K (.bool (decide (x > y)))
  | .geq => K (.bool (decide (x ≥ y)))
  | _ => False
  else False
 | .string x, .string y =>
  match op with
  | .add => ((x.size + y.size : Nat) : Int) ≤ 9223372036854775807 ∧ K (.string (x ++ y))
  | .eql => K (.bool (x == y))
  | .neq => K (.bool (!(x == y)))
  | _ => False
 | _, _ => False

def plain : List AV → Option (List Value)
 | [] => some []
 | .t (.v x) :: r => match plain r with
  | some l => some (x :: l)
  | none => none
 | _ :: _ => none

def vCmp (τ : Tys) (op : BinOp) (t : TypeId) (x y : AV) (K : AV → Prop) : Prop :=
 match x, y with
 | .t (.v (.bool a)), .t (.v (.bool b)) => match (τ t).k with
  | .bl => match op with
   | .eql => K (.b (a == b))
   | .neq => K (.b (!(a == b)))
   | _ => False
  | _ => False
 | .t (.v a), .t (.v b) => vBin op a b fun r => K (.t (.v r))
 | .agg xs, .agg ys => match (τ t).q with
  | [] => False
  | ks => match plain xs, plain ys with
   | some xs, some ys => match eqV ks xs ys with
    | some r => match op with
     | .eql => K (.b r)
     | .neq => K (.b (!r))
     | _ => False
    | none => False
   | _, _ => False
 | _, _ => False

def vInt (x : AV) (K : Int → Prop) : Prop :=
 match x with
 | .t (.v (.int _ n)) => K n
 | _ => False

def vOpt (σ : AS) (o : Option Operand) (d : Int) (K : Int → Prop) : Prop :=
 match o with
 | none => K d
 | some x => vInt (σ.ev x) K

def vLen (τ : Tys) (t : TypeId) (x : AV) (K : AV → Prop) : Prop :=
 match (τ t).k, x with
 | .str, .t (.v (.string s)) => K (.i s.size)
 | .sl _, .t (.sl els) => K (.i els.length)
 | .sl _, .nl => K (.i 0)
 | .sl _, .rf _ _ _ n => K (.i n)
 | .ar len _, _ => K (.i len)
 | _, _ => False

def vIdx (τ : Tys) (t : TypeId) (x i : AV) (K : AV → Prop) : Prop :=
 match (τ t).k, x with
 | .sl e, .t (.sl els) => bif (τ e).k.ok? then vInt i fun n => 0 ≤ n ∧ n < els.length ∧ ∃ el, els[n.toNat]? = some el ∧ el.length = (τ e).n ∧ K (.pT el 0) else False
 | .sl e, .rf r z off m => bif (τ e).k.ok? && Nat.beq z (τ e).n then vInt i fun n => 0 ≤ n ∧ n < m ∧ K (.pe r z (off + n.toNat) 0) else False
 | .ar len e, .pt k off => bif (τ e).k.ok? then vInt i fun n => 0 ≤ n ∧ n < len ∧ K (.pt k (off + n.toNat * (τ e).n)) else False
 | .ar len e, .pT el off => bif (τ e).k.ok? then vInt i fun n => 0 ≤ n ∧ n < len ∧ K (.pT el (off + n.toNat * (τ e).n)) else False
 | _, _ => False

def Wd (n : Nat) (els : List (List T)) : Prop := ∀ el ∈ els, el.length = n
theorem Wd.map {α : Type} {n : Nat} {l : List α} {f : α → List T} (h : ∀ x, (f x).length = n) : Wd n (l.map f) := fun el he => by
 obtain ⟨x, _, rfl⟩ := List.mem_map.1 he
 exact h x
theorem Wd.nil {n : Nat} : Wd n [] := fun _ h => nomatch h
theorem Wd.cons {n : Nat} {x : List T} {l : List (List T)} (h : x.length = n) (k : Wd n l) : Wd n (x :: l) := fun el he => by
 cases he with
 | head => exact h
 | tail _ he => exact k el he
theorem Wd.get {n : Nat} {els : List (List T)} (h : Wd n els) {i : Nat} {el : List T} (hi : els[i]? = some el) : el.length = n := h el (List.mem_of_getElem? hi)

def vSlice (τ : Tys) (σ : AS) (t : TypeId) (x : AV) (lo hi mx : Option Operand) (K : AV → Prop) : Prop :=
 match (τ t).k, x with
 | .str, .t (.v (.string s)) =>
  match mx with
  | none => vOpt σ lo 0 fun l => vOpt σ hi s.size fun h => 0 ≤ l ∧ l ≤ h ∧ h ≤ s.size ∧ K (.s (s.extract l.toNat h.toNat))
  | some _ => False
 | .sl e, .t (.sl els) => bif (τ e).k.ok? then
  vOpt σ lo 0 fun l => vOpt σ hi els.length fun h => vOpt σ mx h fun m => 0 ≤ l ∧ l ≤ h ∧ h ≤ m ∧ m ≤ els.length ∧ Wd (τ e).n els ∧ K (.t (.sl ((els.take h.toNat).drop l.toNat)))
  else False
 | .sl e, .rf r z off n => bif (τ e).k.ok? && Nat.beq z (τ e).n then
  vOpt σ lo 0 fun l => vOpt σ hi n fun h => vOpt σ mx h fun m => 0 ≤ l ∧ l ≤ h ∧ h ≤ m ∧ m ≤ n ∧ K (.rf r z (off + l.toNat) (h.toNat - l.toNat))
  else False
 | _, _ => False

def vAt (h : List AO) (x : AV) (K : List AV → Prop) : Prop :=
 match x with
 | .pt k off => match h[k]? with
  | some (.st cs) => K (cs.drop off)
  | _ => False
 | .pe r z i off => match r.2 with
  | none => match h[r.1]? with
   | some (.row s els) => bif Nat.beq s z then ∃ el, els[i]? = some el ∧ K ((el.drop off).map .t) else False
   | some (.nest z' s els) => bif Nat.beq z' z then ∃ pre inner, els[i]? = some (pre, inner) ∧ 0 < inner.length ∧ K ((pre.map AV.t ++ [AV.rf (r.1, some i) s 0 inner.length]).drop off) else False
   | _ => False
  | some j => match h[r.1]? with
   | some (.nest _ s els) => bif Nat.beq s z then ∃ pre inner el, els[j]? = some (pre, inner) ∧ inner[i]? = some el ∧ K ((el.drop off).map .t) else False
   | _ => False
 | .pT el off => K ((el.drop off).map .t)
 | _ => False

def vHd (cs : List AV) (K : AV → Prop) : Prop :=
 match cs with
 | c :: _ => K c
 | [] => False

def vLoad (τ : Tys) (h : List AO) (t : TypeId) (x : AV) (K : AV → Prop) : Prop :=
 vAt h x fun cs => match (τ t).k with
  | .bad => False
  | .st _ | .ar _ _ => bif Nat.ble (τ t).n cs.length then K (.agg (cs.take (τ t).n)) else False
  | _ => vHd cs K

def vFld (τ : Tys) (s : TypeId) (f : Nat) (x : AV) (K : AV → Prop) : Prop :=
 match (τ s).k with
 | .st fs => match fs[f]? with
  | some (o, t) => bif (τ t).k.ok? && !(Nat.beq (τ t).n 0) then match x with
   | .pt k off => K (.pt k (off + o))
   | .pe r z i off => K (.pe r z i (off + o))
   | .pT el off => K (.pT el (off + o))
   | _ => False
   else False
  | none => False
 | _ => False

def mx2 (m n : Int) : Int := if m < n then n else m
def vPart (τ : Tys) (t : TypeId) (cs : List AV) (o : Nat) (K : AV → Prop) : Prop :=
 match (τ t).k with
 | .bad => False
 | .st _ | .ar _ _ => bif Nat.ble (o + (τ t).n) cs.length then K (.agg ((cs.drop o).take (τ t).n)) else False
 | _ => match cs[o]? with
  | some c => K c
  | none => False

def vConv (τ : Tys) (s d : TypeId) (x : AV) (K : AV → Prop) : Prop :=
 bif (τ s).k.ok? then match (τ d).k, x with
  | .int k, .t (.v (.int _ n)) => K (.int k (k.wrap n))
  | .str, .t (.v (.string b)) => K (.s b)
  | _, _ => False
 else False

def bAt (s : ByteArray) (i : Int) : Int := (s.data.toList.getD i.toNat 0).toNat

def vQ (τ : Tys) (σ : AS) (o : Op) (K : AV → Prop) : Prop :=
 match o with
 | .move x | .assign x => K (σ.ev x)
 | .pick c x y => match σ.ev c with
  | .t (.v (.bool b)) => match b with
   | true => K (σ.ev x)
   | false => K (σ.ev y)
  | _ => False
 | .nilCheck x => match σ.ev x with
  | .pt k off => K (.pt k off)
  | .pe r z i off => K (.pe r z i off)
  | .pT el off => K (.pT el off)
  | _ => False
 | .binOp op t x y _ => vCmp τ op t (σ.ev x) (σ.ev y) K
 | .unOp op _ x => match op, σ.ev x with
  | .not, .t (.v (.bool b)) => K (.b !b)
  | .neg, .t (.v (.int k n)) => K (.int k (k.wrap (0 - n)))
  | _, _ => False
 | .convert s d x => vConv τ s d (σ.ev x) K
 | .fieldAddr s x f => vFld τ s f (σ.ev x) K
 | .field t x f => match (τ t).k, σ.ev x with
  | .st fs, .agg cs => match fs[f]? with
   | some (o, ft) => vPart τ ft cs o K
   | none => False
  | _, _ => False
 | .indexAddr t x i => vIdx τ t (σ.ev x) (σ.ev i) K
 | .index t x i => match (τ t).k, σ.ev x with
  | .str, .t (.v (.string s)) => vInt (σ.ev i) fun n => 0 ≤ n ∧ n < s.size ∧ K (.int .u8 (bAt s n))
  | .ar len e, .agg cs => vInt (σ.ev i) fun n => 0 ≤ n ∧ n < len ∧ vPart τ e cs (n.toNat * (τ e).n) K
  | _, _ => False
 | .slice t x lo hi mx => vSlice τ σ t (σ.ev x) lo hi mx K
 | .load t x => vLoad τ σ.h t (σ.ev x) K
 | .extract x i => match σ.ev x with
  | .tup vs => match vs[i]? with
   | some v => K v
   | none => False
  | _ => False
 | .call { callee := .builtin .len, args, argTypes } => match argTypes[0]?, args[0]? with
  | some t, some x => vLen τ t (σ.ev x) K
  | _, _ => False
 | .call { callee := .builtin .max, args, .. } => match args.toList with
  | [x, y] => match σ.ev x, σ.ev y with
   | .t (.v (.int k m)), .t (.v (.int _ n)) => K (.int k (mx2 m n))
   | _, _ => False
  | _ => False
 | _ => False

section
variable {P : Program} {τ : Tys} {C : Ctx} {w : World} {own : Own} {hd : Hd} {σ : AS} {a : Act}

theorem bif_and {b : Bool} {p : Prop} (h : bif b then p else False) : b = true ∧ p := by
 cases b
 ·exact h.elim
 ·exact ⟨rfl, h⟩

def QOk (P : Program) (own : Own) (hd : Hd) (a : Act) (w : World) (o : Op) (ty : TypeId) (K : AV → Prop) (L : World → Prop) : Prop :=
 ∃ v x, (∀ dst pos after gd w0, L w0 → (execOp a.eval ⟨dst, o, ty, pos, after, gd⟩).run P w0 = .ok (.value v) w0) ∧ VR w own hd x v ∧ K x

def Lk (own : Own) (w : World) (σ : AS) (o : Op) (w0 : World) : Prop :=
 match o with
 | .load _ x => match σ.ev x with
  | .pT _ _ => ∀ b, b < w.heap.size → own b = none → w0.heap[b]? = w.heap[b]?
  | _ => w0 = w
 | _ => True
theorem Lk.refl (own : Own) (w : World) (σ : AS) (o : Op) : Lk own w σ o w := by
 unfold Lk
 split
 ·split
  ·exact fun _ _ _ => rfl
  ·rfl
 ·trivial

theorem QOk.mk {o : Op} {ty : TypeId} {K : AV → Prop} {L : World → Prop} {s : Sem Value} {v : Value} {x : AV} (he : ∀ dst pos after gd, execOp a.eval ⟨dst, o, ty, pos, after, gd⟩ = (do pure (Next.value (← s)) : Sem Next))
 (hr : ∀ w0, L w0 → s.run P w0 = .ok v w0) (hx : VR w own hd x v) (hK : K x) : QOk P own hd a w o ty K L :=
 ⟨v, x, fun dst pos after gd w0 hl => by rw [he, Sem.run_bind, hr w0 hl]; rfl, hx, hK⟩

theorem VR.t' {x : T} {v : Value} (h : VR w own hd (.t x) v) : TV w own x v := by cases h; assumption
theorem VR.v' {x v : Value} (h : VR w own hd (.t (.v x)) v) : v = x ∧ x.oneCell' = true := by cases h with | t h => cases h with | v h => exact ⟨rfl, h⟩

theorem bytes_beq (x y : ByteArray) : (x.toList == y.toList) = (x == y) := (beq_toListBytes x y).symm

theorem vBin_ok {op : BinOp} {t : TypeId} {a b : Value} {K : Value → Prop} (h : vBin op a b K) (xo yo : Operand) :
 ∃ v, (∀ w, (do eqGuard op t xo yo a b; binOp op t a b : Sem Value).run P w = .ok v w) ∧ v.oneCell' = true ∧ K v := by
 unfold vBin at h
 split at h
 ·rename_i k x k' y
  by_cases hk : k = k'
  ·subst hk
   simp only [decide_true, cond_true] at h
   have hg : ∀ w, (eqGuard op t xo yo (.int k x) (.int k y)).run P w = .ok () w := fun w => by unfold eqGuard; split <;> rfl
   simp only [Sem.run_bind, hg, Result.andThen_ok]
   cases op <;> simp only at h <;> try exact h.elim
   all_goals first
    | exact ⟨_, fun w => by simp [binOp, Op.intArith]; rfl, rfl, h⟩
    | exact ⟨_, fun w => by simp only [binOp, Op.intDiv, if_neg h.1, ne_eq, not_true_eq_false, if_false]; rfl, rfl, h.2⟩
    | exact ⟨_, fun w => by simp [binOp, Op.intCmp]; rfl, rfl, h⟩
  ·simp only [hk, decide_false, cond_false] at h
 ·rename_i x y
  have hg : ∀ w, (eqGuard op t xo yo (.string x) (.string y)).run P w = .ok () w := fun w => by unfold eqGuard; split <;> rfl
  simp only [Sem.run_bind, hg, Result.andThen_ok]
  cases op <;> simp only at h <;> try exact h.elim
  ·have h1 := h.1
   have hm : ¬ ((x.size + y.size : Nat) : Int) > IntKind.i64.max := by
    have e : IntKind.i64.max = 9223372036854775807 := by decide
    rw [e]
    exact Int.not_lt.mpr h1
   exact ⟨_, fun w => by simp only [binOp, Op.stringOp]; rw [if_neg hm]; rfl, rfl, h.2⟩
  ·exact ⟨_, fun w => by simp only [binOp, Op.stringOp, bytes_beq]; rfl, rfl, h⟩
  ·exact ⟨_, fun w => by simp only [binOp, Op.stringOp, bytes_beq]; rfl, rfl, h⟩
 ·exact h.elim


theorem plain_ok {cs : List AV} {xs : List Value} (h : plain cs = some xs) {vs : Array Value} (hn : vs.size = cs.length)
 (hv : ∀ (i : Nat) (x : AV) (v : Value), cs[i]? = some x → vs[i]? = some v → VR w own hd x v) : vs = xs.toArray := by
 have key : ∀ (cs : List AV) (xs vs : List Value), plain cs = some xs → vs.length = cs.length →
  (∀ (i : Nat) (x : AV) (v : Value), cs[i]? = some x → vs[i]? = some v → VR w own hd x v) → vs = xs := by
  intro cs
  induction cs with
  | nil => intro xs vs h hn _; simp [plain] at h; subst h; exact List.eq_nil_of_length_eq_zero hn
  | cons c r ih =>
   intro xs vs h hn hv
   cases vs with
   | nil => simp at hn
   | cons u us =>
    cases c with
    | t x =>
     cases x with
     | any => simp [plain] at h
     | v x =>
      simp only [plain] at h
      cases hr : plain r with
      | none => simp [hr] at h
      | some l =>
       simp [hr] at h
       subst h
       have h0 := hv 0 _ u rfl rfl
       rw [h0.v'.1, ih l us hr (by simpa using hn) (fun i x v h1 h2 => hv (i + 1) x v h1 h2)]
     | sl els => simp [plain] at h
    | _ => simp [plain] at h
 apply Array.ext'
 exact key cs xs vs.toList h (by simpa using hn) (fun i x v h1 h2 => hv i x v h1 (by simpa using h2))

theorem vCmp_ok (hτ : Tab P τ) {op : BinOp} {t : TypeId} {x y : AV} {K : AV → Prop} (h : vCmp τ op t x y K) (xo yo : Operand) {a b : Value}
 (hx : VR w own hd x a) (hy : VR w own hd y b) :
 ∃ v z, (∀ w, (do eqGuard op t xo yo a b; binOp op t a b : Sem Value).run P w = .ok v w) ∧ VR w own hd z v ∧ K z := by
 unfold vCmp at h
 split at h
 ·rename_i p q
  obtain ⟨rfl, _⟩ := hx.v'
  obtain ⟨rfl, _⟩ := hy.v'
  split at h
  ·rename_i hk
   obtain ⟨i, d, z, hi, hd', hz, htk, _⟩ := hτ.get hk (by simp)
   have hdb : d = .bool := by cases d <;> simp [tkOf] at htk; rfl
   subst hdb
   have hg : ∀ w, (eqGuard op t xo yo (.bool p) (.bool q)).run P w = .ok () w := fun w => by unfold eqGuard; split <;> rfl
   simp only [Sem.run_bind, hg, Result.andThen_ok]
   cases op <;> simp only at h <;> try exact h.elim
   ·exact ⟨_, _, fun w => by simp [binOp, Op.equal, Op.maxDepth, run_equalIn_bool' w 9999 t p q hd'], .t (.v rfl), h⟩
   ·exact ⟨_, _, fun w => by simp [binOp, Op.equal, Op.maxDepth, run_equalIn_bool' w 9999 t p q hd'], .t (.v rfl), h⟩
  ·exact h.elim
 ·rename_i p q _
  obtain ⟨rfl, _⟩ := hx.v'
  obtain ⟨rfl, _⟩ := hy.v'
  obtain ⟨v, h1, h2, h3⟩ := vBin_ok (P := P) (t := t) h xo yo
  exact ⟨v, _, h1, .t (.v h2), h3⟩
 ·rename_i xs ys
  cases hx with
  | agg hx1 hx2 =>
   cases hy with
   | agg hy1 hy2 =>
    split at h
    ·exact h.elim
    ·rename_i ks hne
     split at h
     ·rename_i p q hp hq
      split at h
      ·rename_i r hr
       have e1 := plain_ok hp hx1 hx2
       have e2 := plain_ok hq hy1 hy2
       subst e1; subst e2
       have g := fun w => hτ.eq t hne w p q r hr
       have g1 := fun w => (g w).1
       have g2 := fun w => (g w).2
       simp only [Sem.run_bind, g1, Result.andThen_ok]
       cases op <;> simp only at h <;> try exact h.elim
       ·exact ⟨_, _, fun w => by rw [run_eql_struct, g2]; rfl, .t (.v rfl), h⟩
       ·exact ⟨_, _, fun w => by rw [run_neq_struct, g2]; rfl, .t (.v rfl), h⟩
      ·exact h.elim
     ·exact h.elim
 ·exact h.elim

theorem range_of {b o : Nat} {R : Nat → Value → Prop} : ∀ n, (∀ j, j < n → ∃ v, w.cell? ⟨b, o + j, none⟩ = some v ∧ R j v) →
 ∃ vs : List Value, vs.length = n ∧ w.rangeAt b o vs ∧ ∀ j v, vs[j]? = some v → R j v
 | 0, _ => ⟨[], rfl, fun j v h => by simp at h, fun j v h => by simp at h⟩
 | n + 1, h => by
  obtain ⟨vs, h1, h2, h3⟩ := range_of n (fun j hj => h j (by omega))
  obtain ⟨v, hv, hr⟩ := h n (by omega)
  refine ⟨vs ++ [v], by simp [h1], fun j u hj => ?_, fun j u hj => ?_⟩
  all_goals
   by_cases hjn : j < vs.length
   ·rw [List.getElem?_append_left hjn] at hj; first | exact h2 j u hj | exact h3 j u hj
   ·rw [List.getElem?_append_right (by omega)] at hj
    have : j = n := by
     rcases Nat.lt_or_ge (j - vs.length) 1 with h' | h'
     ·omega
     ·rw [List.getElem?_eq_none (by simpa using h')] at hj; cases hj
    subst this
    simp [h1] at hj
    subst hj
    first | exact hv | exact hr

theorem vAt_ok {h : List AO} (hrel : Rel own hd h w) {x : AV} {v : Value} (hx : VR w own hd x v) {K : List AV → Prop} (hK : vAt h x K) :
 ∃ b o cs vs, v = .pointer (some ⟨b, o, none⟩) ∧ K cs ∧ vs.length = cs.length ∧ w.rangeAt b o vs ∧
  ∀ (j : Nat) (x : AV) (v : Value), cs[j]? = some x → vs[j]? = some v → VR w own hd x v := by
 cases hx with
 | @pt k off p hp _ =>
  simp only [vAt] at hK
  split at hK
  ·rename_i cs hk
   obtain ⟨q, h1, h2, h3, h4⟩ := hrel.obj k _ hk
   obtain rfl : p = q := Option.some.inj (hp.symm.trans h1)
   obtain ⟨vs, e1, e2, e3⟩ := range_of (w := w) (b := p.1) (o := p.2 + off) (R := fun j v => ∀ x, (cs.drop off)[j]? = some x → VR w own hd x v) (cs.drop off).length (fun j hj => by
    have hj' : off + j < cs.length := by simp at hj; omega
    obtain ⟨v, hv, hr, _⟩ := h4 (off + j) cs[off + j] (List.getElem?_eq_getElem hj')
    refine ⟨v, by rw [Nat.add_assoc]; exact hv, fun x hx => ?_⟩
    rw [List.getElem?_drop, List.getElem?_eq_getElem hj'] at hx
    exact Option.some.inj hx ▸ hr)
   exact ⟨p.1, p.2 + off, _, vs, rfl, hK, e1, e2, fun j x v hx hv => e3 j v hv x hx⟩
  ·exact hK.elim
 | @pe r z i off p hp _ =>
  simp only [vAt] at hK
  split at hK
  ·rename_i hr2
   split at hK
   ·rename_i s els hk
    cases hz : Nat.beq s z with
    | false => simp only [hz, cond_false] at hK
    | true =>
     simp only [hz, cond_true] at hK
     obtain rfl := Nat.eq_of_beq_eq_true hz
     obtain ⟨el, hel, hK⟩ := hK
     obtain ⟨r1, r2⟩ := r
     simp only at hr2 hk
     subst hr2
     obtain ⟨h1, h0, h2, h3, h4, h9, h5, h6⟩ := hrel.obj r1 _ hk
     obtain ⟨vs, e1, e2, e3⟩ := range_of (w := w) (b := p.1) (o := p.2 + (i * s + off)) (R := fun j v => ∀ x, ((el.drop off).map AV.t)[j]? = some x → VR w own hd x v) ((el.drop off).map AV.t).length (fun j hj => by
      have hj' : off + j < el.length := by simp at hj; omega
      obtain ⟨v, hv, ht⟩ := h6 p i el (off + j) el[off + j] hp hel (List.getElem?_eq_getElem hj')
      refine ⟨v, by rw [← hv]; congr 2; omega, fun x hx => ?_⟩
      obtain ⟨t, ht', rfl⟩ := getElem?_map_some hx
      rw [List.getElem?_drop, List.getElem?_eq_getElem hj'] at ht'
      exact Option.some.inj ht' ▸ .t ht)
     exact ⟨p.1, _, _, vs, rfl, hK, e1, e2, fun j x v hx hv => e3 j v hv x hx⟩
   ·rename_i z' s els hk
    cases hz : Nat.beq z' z with
    | false => simp only [hz, cond_false] at hK
    | true =>
     simp only [hz, cond_true] at hK
     obtain rfl := Nat.eq_of_beq_eq_true hz
     obtain ⟨pre, inner, hel, hpos, hK⟩ := hK
     obtain ⟨r1, r2⟩ := r
     simp only at hr2 hk
     subst hr2
     obtain ⟨h0, h2, h3, h4, h9, h5, hlen, h6, h7, h8⟩ := hrel.obj r1 _ hk
     have hl := hlen i pre inner hel
     obtain ⟨vs, e1, e2, e3⟩ := range_of (w := w) (b := p.1) (o := p.2 + (i * z' + off)) (R := fun j v => ∀ x, ((pre.map AV.t ++ [AV.rf (r1, some i) s 0 inner.length]).drop off)[j]? = some x → VR w own hd x v) ((pre.map AV.t ++ [AV.rf (r1, some i) s 0 inner.length]).drop off).length (fun j hj => by
      have hj' : off + j < pre.length + 1 := by simp at hj; omega
      by_cases hjp : off + j < pre.length
      ·obtain ⟨v, hv, ht⟩ := h6 p i pre inner (off + j) pre[off + j] hp hel (List.getElem?_eq_getElem hjp)
       refine ⟨v, by rw [← hv]; congr 2; omega, fun x hx => ?_⟩
       rw [List.getElem?_drop, List.getElem?_append_left (by simpa using hjp)] at hx
       obtain ⟨t, ht', rfl⟩ := getElem?_map_some hx
       rw [List.getElem?_eq_getElem hjp] at ht'
       exact Option.some.inj ht' ▸ .t ht
      ·obtain ⟨v, hv, _, ht⟩ := h7 p i pre inner hp hel
       refine ⟨v, by rw [← hv]; congr 2; omega, fun x hx => ?_⟩
       rw [List.getElem?_drop, List.getElem?_append_right (by simp; omega), List.length_map, show off + j - pre.length = 0 by omega] at hx
       exact Option.some.inj hx ▸ ht hpos)
     exact ⟨p.1, _, _, vs, rfl, hK, e1, e2, fun j x v hx hv => e3 j v hv x hx⟩
   ·exact hK.elim
  ·rename_i j0 hr2
   split at hK
   ·rename_i z' s els hk
    cases hz : Nat.beq s z with
    | false => simp only [hz, cond_false] at hK
    | true =>
     simp only [hz, cond_true] at hK
     obtain rfl := Nat.eq_of_beq_eq_true hz
     obtain ⟨pre, inner, el, hel, hin, hK⟩ := hK
     obtain ⟨r1, r2⟩ := r
     simp only at hr2 hk
     subst hr2
     obtain ⟨h1, h0, h2, h3, h4, h9, h5, h6⟩ := (hrel.obj r1 _ hk).sub j0 pre inner hel
     obtain ⟨vs, e1, e2, e3⟩ := range_of (w := w) (b := p.1) (o := p.2 + (i * s + off)) (R := fun j v => ∀ x, ((el.drop off).map AV.t)[j]? = some x → VR w own hd x v) ((el.drop off).map AV.t).length (fun j hj => by
      have hj' : off + j < el.length := by simp at hj; omega
      obtain ⟨v, hv, ht⟩ := h6 p i el (off + j) el[off + j] hp hin (List.getElem?_eq_getElem hj')
      refine ⟨v, by rw [← hv]; congr 2; omega, fun x hx => ?_⟩
      obtain ⟨t, ht', rfl⟩ := getElem?_map_some hx
      rw [List.getElem?_drop, List.getElem?_eq_getElem hj'] at ht'
      exact Option.some.inj ht' ▸ .t ht)
     exact ⟨p.1, _, _, vs, rfl, hK, e1, e2, fun j x v hx hv => e3 j v hv x hx⟩
   ·exact hK.elim
 | @pT el off b o ho hb hc hv =>
  simp only [vAt] at hK
  obtain ⟨vs, e1, e2, e3⟩ := range_of (w := w) (b := b) (o := o + off) (R := fun j v => ∀ x, ((el.drop off).map AV.t)[j]? = some x → VR w own hd x v) ((el.drop off).map AV.t).length (fun j hj => by
   have hj' : off + j < el.length := by simp at hj; omega
   have hj2 := List.getElem?_eq_getElem hj'
   obtain ⟨v, hv'⟩ := Option.isSome_iff_exists.1 (hc (off + j) _ hj2)
   refine ⟨v, by rw [Nat.add_assoc]; exact hv', fun x hx => ?_⟩
   obtain ⟨t, ht', rfl⟩ := getElem?_map_some hx
   rw [List.getElem?_drop, hj2] at ht'
   exact Option.some.inj ht' ▸ .t (hv _ _ v hj2 hv'))
  exact ⟨b, o + off, _, vs, rfl, hK, e1, e2, fun j x v hx hv => e3 j v hv x hx⟩
 | _ => exact hK.elim

theorem tk_isAgg (hτ : Tab P τ) {t : TypeId} (w : World) (hb : (τ t).k ≠ .bad) : (isAgg t).run P w = .ok (τ t).k.agg? w := by
 obtain ⟨i, d, z, hi, hd', hz, htk, hn, _⟩ := hτ.get rfl hb
 unfold isAgg
 rw [Sem.run_bind, run_underlying hd' w, ← htk]
 cases d <;> rfl

theorem tk_sizeOf (hτ : Tab P τ) {t : TypeId} (w : World) (hb : (τ t).k ≠ .bad) : (sizeOf t).run P w = .ok (τ t).n w := by
 obtain ⟨i, d, z, hi, hd', hz, htk, hn, _⟩ := hτ.get rfl hb
 simp [sizeOf, typeInfo, hi, hn]

theorem rangeAt_take {b o : Nat} {vs : List Value} (h : w.rangeAt b o vs) (n : Nat) : w.rangeAt b o (vs.take n) := fun j v hj => by
 rw [List.getElem?_take] at hj
 split at hj
 ·exact h j v hj
 ·cases hj

theorem vLoad_ok (hτ : Tab P τ) {h : List AO} (hrel : Rel own hd h w) {t : TypeId} {x : AV} {v : Value} (hx : VR w own hd x v) {K : AV → Prop} (hK : vLoad τ h t x K) :
 ∃ u y b o, v = .pointer (some ⟨b, o, none⟩) ∧ (∀ w0, w0.heap[b]? = w.heap[b]? → (Instr.loadAt t v).run P w0 = .ok u w0) ∧ VR w own hd y u ∧ K y := by
 obtain ⟨b, o, cs, vs, rfl, hK, hl, hr, hv⟩ := vAt_ok hrel hx hK
 have agg : (τ t).k.agg? = true → (bif Nat.ble (τ t).n cs.length then K (.agg (cs.take (τ t).n)) else False) → ∃ u y, (∀ w0, w0.heap[b]? = w.heap[b]? → (Instr.loadAt t (.pointer (some ⟨b, o, none⟩))).run P w0 = .ok u w0) ∧ VR w own hd y u ∧ K y := fun ha hq => by
  obtain ⟨h1, h2⟩ := bif_and hq
  have hb : (τ t).k ≠ .bad := fun e => by rw [e] at ha; cases ha
  have hle := Nat.le_of_ble_eq_true h1
  have hlen : (vs.take (τ t).n).length = (τ t).n := by rw [List.length_take]; omega
  have hload : ∀ w0 : World, w0.heap[b]? = w.heap[b]? → _ := fun w0 hw0 => run_loadCells_list (P := P) w0 ⟨b, o, none⟩ (vs.take (τ t).n) (fun j v hj => by rw [Addr.add_mid, World.cell?_of_block hw0]; exact rangeAt_take hr _ j v hj)
  rw [hlen] at hload
  refine ⟨.agg (vs.take (τ t).n).toArray, _, ?_, .agg (by simp; omega) (fun i x v hx hv' => ?_), h2⟩
  ·intro w0 hw0
   simp [Instr.loadAt, Instr.sureAddr, loadVar, tk_isAgg hτ w0 hb, tk_sizeOf hτ w0 hb, ha, hload w0 hw0]
  ·simp only [List.getElem?_toArray] at hv'
   rw [List.getElem?_take] at hx hv'
   split at hx
   ·rename_i hi
    rw [if_pos hi] at hv'
    exact hv i x v hx hv'
   ·cases hx
 have scal : (τ t).k.agg? = false → (τ t).k ≠ .bad → vHd cs K → ∃ u y, (∀ w0, w0.heap[b]? = w.heap[b]? → (Instr.loadAt t (.pointer (some ⟨b, o, none⟩))).run P w0 = .ok u w0) ∧ VR w own hd y u ∧ K y := fun ha hb h2 => by
  cases cs with
  | nil => exact h2.elim
  | cons c r =>
   cases vs with
   | nil => simp at hl
   | cons u us =>
    have h0 := hr 0 u rfl
    exact ⟨u, c, fun w0 hw0 => by simp [Instr.loadAt, Instr.sureAddr, loadVar, tk_isAgg hτ w0 hb, ha, show w0.cell? ⟨b, o, none⟩ = some u from (World.cell?_of_block hw0).trans h0], hv 0 c u rfl rfl, h2⟩
 refine (?_ : ∃ u y, (∀ w0, w0.heap[b]? = w.heap[b]? → (Instr.loadAt t (.pointer (some ⟨b, o, none⟩))).run P w0 = .ok u w0) ∧ VR w own hd y u ∧ K y).elim fun u ⟨y, h⟩ => ⟨u, y, b, o, rfl, h⟩
 cases hk : (τ t).k with
 | bad => rw [hk] at hK; exact hK.elim
 | st fs => rw [hk] at hK agg; exact agg rfl hK
 | ar n e => rw [hk] at hK agg; exact agg rfl hK
 | _ => rw [hk] at hK scal; exact scal rfl (by simp) hK


theorem vInt_ok {x : AV} {v : Value} (hx : VR w own hd x v) {K : Int → Prop} (h : vInt x K) : ∃ k n, v = .int k n ∧ K n := by
 unfold vInt at h
 split at h
 ·rename_i k n
  exact ⟨k, n, hx.v'.1, h⟩
 ·exact h.elim

theorem vPart_ok (hτ : Tab P τ) {t : TypeId} {cs : List AV} {o : Nat} {K : AV → Prop} (h : vPart τ t cs o K) {vs : Array Value} (hn : vs.size = cs.length)
 (hv : ∀ (i : Nat) (x : AV) (v : Value), cs[i]? = some x → vs[i]? = some v → VR w own hd x v) :
 ∃ u y, (∀ w, (part t vs o).run P w = .ok u w) ∧ VR w own hd y u ∧ K y := by
 have agg : (τ t).k.agg? = true → (bif Nat.ble (o + (τ t).n) cs.length then K (.agg ((cs.drop o).take (τ t).n)) else False) → ∃ u y, (∀ w, (part t vs o).run P w = .ok u w) ∧ VR w own hd y u ∧ K y := fun ha hq => by
  obtain ⟨h1, h2⟩ := bif_and hq
  have hb : (τ t).k ≠ .bad := fun e => by rw [e] at ha; cases ha
  have hle := Nat.le_of_ble_eq_true h1
  refine ⟨.agg (vs.extract o (o + (τ t).n)), _, fun w => by simp [part, tk_isAgg hτ w hb, ha, tk_sizeOf hτ w hb], .agg (by simp; omega) (fun i x v hx hv' => ?_), h2⟩
  rw [List.getElem?_take] at hx
  split at hx
  ·rename_i hi
   rw [List.getElem?_drop] at hx
   rw [Array.getElem?_extract] at hv'
   split at hv'
   ·exact hv _ _ _ hx hv'
   ·cases hv'
  ·cases hx
 have scal : (τ t).k.agg? = false → (τ t).k ≠ .bad → (∃ c, cs[o]? = some c ∧ K c) → ∃ u y, (∀ w, (part t vs o).run P w = .ok u w) ∧ VR w own hd y u ∧ K y := fun ha hb ⟨c, h1, h2⟩ => by
  have hlt : o < vs.size := by rw [hn]; exact (List.getElem?_eq_some_iff.1 h1).1
  exact ⟨vs[o], c, fun w => by simp [part, tk_isAgg hτ w hb, ha, hlt], hv o c _ h1 (Array.getElem?_eq_getElem hlt), h2⟩
 unfold vPart at h
 cases hk : (τ t).k with
 | bad => rw [hk] at h; exact h.elim
 | st fs => rw [hk] at h agg; exact agg rfl h
 | ar n e => rw [hk] at h agg; exact agg rfl h
 | _ =>
  rw [hk] at h scal
  simp only at h
  split at h
  ·rename_i c hc; exact scal rfl (by simp) ⟨c, hc, h⟩
  ·exact h.elim

theorem vFld_ok (hτ : Tab P τ) {s : TypeId} {f : Nat} {x : AV} {v : Value} (hx : VR w own hd x v) {K : AV → Prop} (h : vFld τ s f x K) :
 ∃ u y, (∀ w, (Instr.fieldAt s v f).run P w = .ok u w) ∧ VR w own hd y u ∧ K y := by
 unfold vFld at h
 split at h
 ·rename_i fs hk
  split at h
  ·rename_i o t hf
   cases hc : ((τ t).k.ok? && !(Nat.beq (τ t).n 0)) with
   | false => simp only [hc, cond_false] at h
   | true =>
    simp only [hc, cond_true] at h
    simp only [Bool.and_eq_true, Bool.not_eq_true'] at hc
    obtain ⟨i, d, z, hi, hd', hz, htk, hn, _⟩ := hτ.get hk (by simp)
    obtain ⟨fl, rfl, rfl⟩ := tk_st htk
    obtain ⟨g, hg, e⟩ := getElem?_map_some hf
    have e1 : o = g.offset := congrArg Prod.fst e
    have e2 : t = g.type := congrArg Prod.snd e
    subst e1; subst e2
    have hb : (τ g.type).k ≠ .bad := fun e => by rw [e] at hc; cases hc.1
    have hnz : (τ g.type).n ≠ 0 := fun e => by rw [e] at hc; cases hc.2
    have hga : fl[f]? = some g := by simpa using hg
    have run : ∀ b q w, (Instr.fieldAt s (.pointer (some ⟨b, q, none⟩)) f).run P w = .ok (.pointer (some ⟨b, q + g.offset, none⟩)) w := fun b q w => by
     simp [Instr.fieldAt, run_underlying hd', hga, Instr.sureAddr, fieldPlace, tk_sizeOf hτ w hb, hnz, Addr.add_mid]
    cases hx with
    | @pt k off p hp ho => exact ⟨_, _, run _ _, by rw [Nat.add_assoc]; exact .pt hp ho, h⟩
    | @pe r z i off p hp ho => exact ⟨_, _, run _ _, by rw [Nat.add_assoc, Nat.add_assoc]; exact .pe hp ho, h⟩
    | pT h1 h2 h3 h4 => exact ⟨_, _, run _ _, by rw [Nat.add_assoc]; exact .pT h1 h2 h3 h4, h⟩
    | _ => exact h.elim
  ·exact h.elim
 ·exact h.elim

theorem vIdx_ok (hτ : Tab P τ) {t : TypeId} {x i : AV} {v j : Value} (hx : VR w own hd x v) (hi : VR w own hd i j) {K : AV → Prop} (h : vIdx τ t x i K) :
 ∃ u y, (∀ w, (Instr.indexAt t v j).run P w = .ok u w) ∧ VR w own hd y u ∧ K y := by
 unfold vIdx at h
 split at h
 ·rename_i e els hk
  cases hc : (τ e).k.ok? with
  | false => simp only [hc, cond_false] at h
  | true =>
   simp only [hc, cond_true] at h
   have hb : (τ e).k ≠ .bad := fun e' => by rw [e'] at hc; cases hc
   obtain ⟨k, n, rfl, h0, h1, el, h2, h3, h4⟩ := vInt_ok hi h
   obtain ⟨_, d, _, _, hd', _, htk, _⟩ := hτ.get hk (by simp)
   obtain rfl := tk_sl htk
   cases hx.t' with
   | nil => simp at h2
   | @sl _ b o cap s ho hbl hle hmx hlen hcc hv hpl hth =>
    have hs : s = (τ e).n := (hlen _ _ h2).symm.trans h3
    refine ⟨.pointer (some ⟨b, o + n.toNat * (τ e).n + 0, none⟩), _, ?_, .pT (o := o + n.toNat * (τ e).n) ho hbl (fun j t hj => ?_) (fun j t v hj hc' => ?_), h4⟩
    ·intro w; simp [Instr.indexAt, Go.asIntOf, run_underlying hd', h0, h1, tk_sizeOf hτ w hb, Addr.add_mid]
    ·rw [Nat.add_assoc, ← hs]; exact hcc _ _ _ _ h2 hj
    ·rw [Nat.add_assoc, ← hs] at hc'; exact hv _ _ _ _ _ h2 hj hc'
 ·rename_i e r z off m hk
  cases hc : ((τ e).k.ok? && Nat.beq z (τ e).n) with
  | false => simp only [hc, cond_false] at h
  | true =>
   simp only [hc, cond_true] at h
   simp only [Bool.and_eq_true] at hc
   have hb : (τ e).k ≠ .bad := fun e' => by rw [e'] at hc; cases hc.1
   obtain rfl := Nat.eq_of_beq_eq_true hc.2
   obtain ⟨k, n, rfl, h0, h1, h4⟩ := vInt_ok hi h
   obtain ⟨_, d, _, _, hd', _, htk, _⟩ := hτ.get hk (by simp)
   obtain rfl := tk_sl htk
   cases hx with
   | @rf _ _ _ _ c a g1 g3 =>
    obtain ⟨p, hp, ho, _, rfl⟩ := g3 (by omega)
    refine ⟨.pointer (some ⟨p.1, p.2 + off * (τ e).n + n.toNat * (τ e).n, none⟩), _, ?_, ?_, h4⟩
    ·intro w; simp [Instr.indexAt, Go.asIntOf, run_underlying hd', h0, h1, tk_sizeOf hτ w hb, Addr.add_mid]
    ·have : p.2 + off * (τ e).n + n.toNat * (τ e).n = p.2 + ((off + n.toNat) * (τ e).n + 0) := by rw [Nat.add_mul]; omega
     rw [this]; exact .pe hp ho
 ·rename_i len e k off hk
  cases hc : (τ e).k.ok? with
  | false => simp only [hc, cond_false] at h
  | true =>
   simp only [hc, cond_true] at h
   have hb : (τ e).k ≠ .bad := fun e' => by rw [e'] at hc; cases hc
   obtain ⟨k', n, rfl, h0, h1, h4⟩ := vInt_ok hi h
   obtain ⟨_, d, _, _, hd', _, htk, _⟩ := hτ.get hk (by simp)
   obtain rfl := tk_ar htk
   cases hx with
   | @pt _ _ p hp ho =>
    refine ⟨.pointer (some ⟨p.1, p.2 + off + n.toNat * (τ e).n, none⟩), _, ?_, by rw [Nat.add_assoc]; exact .pt hp ho, h4⟩
    intro w; simp [Instr.indexAt, Go.asIntOf, run_underlying hd', Instr.sureAddr, h0, h1, tk_sizeOf hτ w hb, Addr.add_mid]
 ·rename_i len e el off hk
  cases hc : (τ e).k.ok? with
  | false => simp only [hc, cond_false] at h
  | true =>
   simp only [hc, cond_true] at h
   have hb : (τ e).k ≠ .bad := fun e' => by rw [e'] at hc; cases hc
   obtain ⟨k', n, rfl, h0, h1, h4⟩ := vInt_ok hi h
   obtain ⟨_, d, _, _, hd', _, htk, _⟩ := hτ.get hk (by simp)
   obtain rfl := tk_ar htk
   cases hx with
   | @pT _ _ b o g1 g2 g3 g4 =>
    refine ⟨.pointer (some ⟨b, o + off + n.toNat * (τ e).n, none⟩), _, ?_, by rw [Nat.add_assoc]; exact .pT g1 g2 g3 g4, h4⟩
    intro w; simp [Instr.indexAt, Go.asIntOf, run_underlying hd', Instr.sureAddr, h0, h1, tk_sizeOf hτ w hb, Addr.add_mid]
 ·exact h.elim


theorem vOpt_ok {C : Ctx} (hσ : SX C own hd σ a w) {o : Option Operand} {d : Int} {K : Int → Prop} (h : vOpt σ o d K) :
 ∃ n, K n ∧ (o = none ∧ n = d ∨ ∃ x k, o = some x ∧ a.eval x = .int k n) := by
 cases o with
 | none => exact ⟨d, h, .inl ⟨rfl, rfl⟩⟩
 | some x =>
  obtain ⟨k, n, e, hk⟩ := vInt_ok (hσ.ev x) h
  exact ⟨n, hk, .inr ⟨x, k, rfl, e⟩⟩

theorem run_bound {v : Value} {k : IntKind} {n : Int} (hv : v = .int k n) (y : Nat) (c : BoundsCode) (h0 : 0 ≤ n) (h1 : n ≤ y) : (Instr.sliceBound v y c).run P w = .ok n.toNat w := by
 subst hv
 simp [Instr.sliceBound, Go.asIntOf, h0, h1]

theorem run_bounds {C : Ctx} (hσ : SX C own hd σ a w) {lo hi mx : Option Operand} {isS : Bool} {len cap : Nat} {l h m : Int}
 (hl : lo = none ∧ l = 0 ∨ ∃ x k, lo = some x ∧ a.eval x = .int k l)
 (hh : hi = none ∧ h = len ∨ ∃ x k, hi = some x ∧ a.eval x = .int k h)
 (hm : mx = none ∧ m = h ∨ ∃ x k, mx = some x ∧ a.eval x = .int k m) (hne : hi = none → mx = none)
 (g0 : 0 ≤ l) (g1 : l ≤ h) (g2 : h ≤ m) (g3 : m ≤ len) (g4 : len ≤ cap) :
 ∃ M : Nat, (∀ w, (Instr.sliceBounds isS len cap (lo.map a.eval) (hi.map a.eval) (mx.map a.eval)).run P w = .ok (l.toNat, h.toNat, M) w) ∧ h ≤ M ∧ M ≤ cap := by
 have hln : (len : Int) ≤ cap := by omega
 rcases hm with ⟨rfl, rfl⟩ | ⟨xm, km, rfl, em⟩
 ·refine ⟨cap, fun w => ?_, by omega, Nat.le_refl _⟩
  rcases hh with ⟨rfl, rfl⟩ | ⟨xh, kh, rfl, eh⟩
  ·rcases hl with ⟨rfl, rfl⟩ | ⟨xl, kl, rfl, el⟩
   ·simp [Instr.sliceBounds]
   ·simp [Instr.sliceBounds, run_bound (P := P) (w := w) el len _ g0 g1]
  ·have b2 := fun c => run_bound (P := P) (w := w) eh cap c (by omega) (by omega)
   rcases hl with ⟨rfl, rfl⟩ | ⟨xl, kl, rfl, el⟩
   ·simp [Instr.sliceBounds, b2]
   ·have b1 := fun c => run_bound (P := P) (w := w) el m.toNat c g0 (by omega)
    simp [Instr.sliceBounds, b2, b1]
 ·have b3 := fun c w => run_bound (P := P) (w := w) em cap c (by omega) (by omega)
  refine ⟨m.toNat, fun w => ?_, by omega, by omega⟩
  rcases hh with ⟨rfl, rfl⟩ | ⟨xh, kh, rfl, eh⟩
  ·cases hne rfl
  ·have b2 := fun c => run_bound (P := P) (w := w) eh m.toNat c (by omega) (by omega)
   rcases hl with ⟨rfl, rfl⟩ | ⟨xl, kl, rfl, el⟩
   ·simp [Instr.sliceBounds, b2, b3]
   ·have b1 := fun c => run_bound (P := P) (w := w) el h.toNat c g0 (by omega)
    simp [Instr.sliceBounds, b2, b1, b3]

theorem els_drop {els : List (List T)} {l h : Nat} {i : Nat} {el : List T} (hi : ((els.take h).drop l)[i]? = some el) : els[l + i]? = some el := by
 rw [List.getElem?_drop, List.getElem?_take] at hi
 split at hi
 ·exact hi
 ·cases hi

theorem TV.cut {els : List (List T)} {b o s l h c' cap : Nat} (ho : own b = none) (hbl : b < w.heap.size)
 (hlen : ∀ (i : Nat) (el : List T), els[i]? = some el → el.length = s)
 (hc : ∀ (i : Nat) (el : List T) (j : Nat) (t : T), els[i]? = some el → el[j]? = some t → (w.cell? ⟨b, o + (i * s + j), none⟩).isSome = true)
 (hv : ∀ (i : Nat) (el : List T) (j : Nat) (t : T) (v : Value), els[i]? = some el → el[j]? = some t → w.cell? ⟨b, o + (i * s + j), none⟩ = some v → TV w own t v)
 (hmx : els.length ≤ 9223372036854775807) (hpl : Pln w b s ∨ (s = 1 ∧ scalE els)) (hh : h ≤ els.length) (hlh : l ≤ h) (hcap : h - l ≤ c') (hth : ∀ j, j < cap * s → (w.cell? ⟨b, o + j, none⟩).isSome = true) (hc2 : l + c' ≤ cap) :
 TV w own (.sl ((els.take h).drop l)) (.slice (some ⟨b, o + l * s, none⟩) (h - l) c') := by
 have e : ((els.take h).drop l).length = h - l := by rw [List.length_drop, List.length_take]; omega
 rw [← e]
 refine .sl ho hbl (by omega) (by omega) (fun i el hi => hlen _ _ (els_drop hi)) (fun i el j t hi hj => ?_) (fun i el j t v hi hj hcell => ?_) (hpl.imp id fun h => ⟨h.1, fun i el j t hi hj => h.2 _ el j t (els_drop hi) hj⟩) (fun j hj => by
  have hm := Nat.mul_le_mul_right s hc2
  rw [Nat.add_mul] at hm
  rw [Nat.add_assoc]
  exact hth (l * s + j) (by omega))
 ·have := hc _ _ _ _ (els_drop hi) hj
  rwa [show o + l * s + (i * s + j) = o + ((l + i) * s + j) by rw [Nat.add_mul]; omega]
 ·rw [show o + l * s + (i * s + j) = o + ((l + i) * s + j) by rw [Nat.add_mul]; omega] at hcell
  exact hv _ _ _ _ v (els_drop hi) hj hcell

theorem vSlice_ok (hτ : Tab P τ) {C : Ctx} (hσ : SX C own hd σ a w) {t : TypeId} {x : AV} {v : Value} (hx : VR w own hd x v) {lo hi mx : Option Operand}
 (hne : hi = none → mx = none) {K : AV → Prop} (h : vSlice τ σ t x lo hi mx K) :
 ∃ u y, (∀ w, (Instr.sliceAt t v (lo.map a.eval) (hi.map a.eval) (mx.map a.eval)).run P w = .ok u w) ∧ VR w own hd y u ∧ K y := by
 unfold vSlice at h
 split at h
 ·rename_i s hk
  obtain ⟨rfl, _⟩ := hx.v'
  split at h
  ·obtain ⟨l, h, hl⟩ := vOpt_ok hσ h
   obtain ⟨h', h, hh⟩ := vOpt_ok hσ h
   obtain ⟨g0, g1, g2, hK⟩ := h
   obtain ⟨_, d, _, _, hd', _, htk, _⟩ := hτ.get hk (by simp)
   obtain rfl := tk_str htk
   obtain ⟨M, hM, _, _⟩ := run_bounds (P := P) hσ (isS := false) (len := s.size) (cap := s.size) hl hh (.inl ⟨rfl, rfl⟩) (fun _ => rfl) g0 g1 (Int.le_refl _) g2 (Nat.le_refl _)
   refine ⟨.string (s.extract l.toNat h'.toNat), _, fun w => ?_, .t (.v rfl), hK⟩
   simp only [Option.map_none] at hM
   simp [Instr.sliceAt, run_underlying hd', Instr.slice, hM]
  ·exact h.elim
 ·rename_i e els hk
  cases hc : (τ e).k.ok? with
  | false => simp only [hc, cond_false] at h
  | true =>
   simp only [hc, cond_true] at h
   have hb : (τ e).k ≠ .bad := fun e' => by rw [e'] at hc; cases hc
   obtain ⟨l, h, hl⟩ := vOpt_ok hσ h
   obtain ⟨h', h, hh⟩ := vOpt_ok hσ h
   obtain ⟨m, h, hm⟩ := vOpt_ok hσ h
   obtain ⟨g0, g1, g2, g3, hwd, hK⟩ := h
   obtain ⟨_, d, _, _, hd', _, htk, _⟩ := hτ.get hk (by simp)
   obtain rfl := tk_sl htk
   have run : ∀ (ad : Option Addr) (cap M : Nat), (∀ w, (Instr.sliceBounds true els.length cap (lo.map a.eval) (hi.map a.eval) (mx.map a.eval)).run P w = .ok (l.toNat, h'.toNat, M) w) →
    ∀ w, (Instr.sliceAt t (.slice ad els.length cap) (lo.map a.eval) (hi.map a.eval) (mx.map a.eval)).run P w = .ok (.slice (if M = l.toNat then ad else ad.map (·.add (l.toNat * (τ e).n))) (h'.toNat - l.toNat) (M - l.toNat)) w := fun ad cap M hM w => by
    simp only [Instr.sliceAt, Sem.run_bind, run_underlying hd', Result.andThen_ok, Instr.slice, hM, tk_sizeOf hτ w hb]
    rfl
   cases hx.t' with
   | @nil ad cap =>
    obtain ⟨M, hM, hM1, hM2⟩ := run_bounds (P := P) hσ (isS := true) (len := ([] : List (List T)).length) (cap := cap) hl hh hm hne g0 g1 g2 g3 (Nat.zero_le _)
    simp only [List.length_nil, Int.ofNat_zero, Int.natCast_zero] at g3
    have e2 : h'.toNat - l.toNat = 0 := by omega
    refine ⟨_, _, run ad cap M hM, ?_, hK⟩
    rw [e2]
    simp only [List.take_nil, List.drop_nil]
    exact .t .nil
   | @sl _ b o cap s ho hbl hle hmx hlen hcc hv hpl hth =>
    obtain ⟨M, hM, hM1, hM2⟩ := run_bounds (P := P) hσ (isS := true) (len := els.length) (cap := cap) hl hh hm hne g0 g1 g2 g3 hle
    refine ⟨_, _, run _ cap M hM, .t ?_, hK⟩
    by_cases hlh : l = h'
    ·subst hlh
     rw [Nat.sub_self]
     have : (els.take l.toNat).drop l.toNat = [] := by rw [List.drop_eq_nil_iff, List.length_take]; omega
     rw [this]
     exact .nil
    ·rw [if_neg (by omega)]
     have hi0 : l.toNat < els.length := by omega
     have hs : s = (τ e).n := (hlen _ _ (List.getElem?_eq_getElem hi0)).symm.trans (hwd.get (List.getElem?_eq_getElem hi0))
     simp only [Option.map_some, Addr.add_mid]
     rw [← hs]
     exact TV.cut ho hbl hlen hcc hv hmx hpl (by omega) (by omega) (by omega) hth (by omega)
 ·rename_i e r z off n hk
  cases hc : ((τ e).k.ok? && Nat.beq z (τ e).n) with
  | false => simp only [hc, cond_false] at h
  | true =>
   simp only [hc, cond_true] at h
   simp only [Bool.and_eq_true] at hc
   have hb : (τ e).k ≠ .bad := fun e' => by rw [e'] at hc; cases hc.1
   obtain rfl := Nat.eq_of_beq_eq_true hc.2
   obtain ⟨l, h, hl⟩ := vOpt_ok hσ h
   obtain ⟨h', h, hh⟩ := vOpt_ok hσ h
   obtain ⟨m, h, hm⟩ := vOpt_ok hσ h
   obtain ⟨g0, g1, g2, g3, hK⟩ := h
   obtain ⟨_, d, _, _, hd', _, htk, _⟩ := hτ.get hk (by simp)
   obtain rfl := tk_sl htk
   cases hx with
   | @rf _ _ _ _ c ad q1 q3 =>
    obtain ⟨M, hM, hM1, hM2⟩ := run_bounds (P := P) hσ (isS := true) (len := n) (cap := c) hl hh hm hne g0 g1 g2 g3 q1
    by_cases hML : M = l.toNat
    ·refine ⟨.slice ad (h'.toNat - l.toNat) (M - l.toNat), _, fun w => ?_, .rf (by omega) (fun hz => absurd (by omega) hz), hK⟩
     simp [Instr.sliceAt, run_underlying hd', Instr.slice, hM, tk_sizeOf hτ w hb, hML]
    ·obtain ⟨p, hp, ho, q2, rfl⟩ := q3 (by omega)
     refine ⟨.slice (some ⟨p.1, p.2 + off * (τ e).n + l.toNat * (τ e).n, none⟩) (h'.toNat - l.toNat) (M - l.toNat), _, fun w => ?_, .rf (by omega) (fun hz => ⟨p, hp, ho, by omega, ?_⟩), hK⟩
     ·simp [Instr.sliceAt, run_underlying hd', Instr.slice, hM, tk_sizeOf hτ w hb, hML, Addr.add_mid]
     ·rw [Nat.add_mul, ← Nat.add_assoc]
 ·exact h.elim


theorem vLen_ok (hτ : Tab P τ) {t ty : TypeId} {x : AV} {v : Value} (hx : VR w own hd x v) {K : AV → Prop} (h : vLen τ t x K) :
 ∃ u y, (∀ ats args w, ats[0]? = some t → args[0]? = some v → (Builtin.len_ ats ty args).run P w = .ok u w) ∧ VR w own hd y u ∧ K y := by
 unfold vLen at h
 split at h
 ·rename_i s hk
  obtain ⟨rfl, _⟩ := hx.v'
  obtain ⟨_, d, _, _, hd', _, htk, _⟩ := hτ.get hk (by simp)
  obtain rfl := tk_str htk
  exact ⟨_, _, fun ats args w h1 h2 => by simp [Builtin.len_, h1, h2, run_underlying hd']; rfl, .t (.v rfl), h⟩
 ·rename_i e els hk
  obtain ⟨_, d, _, _, hd', _, htk, _⟩ := hτ.get hk (by simp)
  obtain rfl := tk_sl htk
  cases hx.t' with
  | nil => exact ⟨_, _, fun ats args w h1 h2 => by simp [Builtin.len_, h1, h2, run_underlying hd']; rfl, .t (.v rfl), h⟩
  | sl => exact ⟨_, _, fun ats args w h1 h2 => by simp [Builtin.len_, h1, h2, run_underlying hd']; rfl, .t (.v rfl), h⟩
 ·rename_i e hk
  obtain ⟨_, d, _, _, hd', _, htk, _⟩ := hτ.get hk (by simp)
  obtain rfl := tk_sl htk
  cases hx with
  | nl => exact ⟨_, _, fun ats args w h1 h2 => by simp [Builtin.len_, h1, h2, run_underlying hd']; rfl, .t (.v rfl), h⟩
 ·rename_i e r z off n hk
  obtain ⟨_, d, _, _, hd', _, htk, _⟩ := hτ.get hk (by simp)
  obtain rfl := tk_sl htk
  cases hx with
  | rf => exact ⟨_, _, fun ats args w h1 h2 => by simp [Builtin.len_, h1, h2, run_underlying hd']; rfl, .t (.v rfl), h⟩
 ·rename_i n e hk
  obtain ⟨_, d, _, _, hd', _, htk, _⟩ := hτ.get hk (by simp)
  obtain rfl := tk_ar htk
  exact ⟨_, _, fun ats args w h1 h2 => by simp [Builtin.len_, h1, h2, run_underlying hd']; rfl, .t (.v rfl), h⟩
 ·exact h.elim

def Op.fine : Op → Bool
 | .slice _ _ _ hi mx => hi.isSome || mx.isNone
 | _ => true

theorem vQ_ok (hτ : Tab P τ) {C : Ctx} (hσ : SX C own hd σ a w) {o : Op} {ty : TypeId} {K : AV → Prop} (hf : Op.fine o = true) (h : vQ τ σ o K) :
 QOk P own hd a w o ty K (Lk own w σ o) := by
 unfold vQ at h
 split at h
 ·exact ⟨_, _, fun _ _ _ _ _ _ => rfl, hσ.ev _, h⟩
 ·exact ⟨_, _, fun _ _ _ _ _ _ => rfl, hσ.ev _, h⟩
 ·rename_i c x y
  split at h
  ·rename_i b hb
   have hc := hb ▸ hσ.ev c
   obtain ⟨hc, _⟩ := hc.v'
   split at h
   ·exact ⟨_, _, fun _ _ _ _ _ _ => by simp [execOp, hc, asBool], hσ.ev x, h⟩
   ·exact ⟨_, _, fun _ _ _ _ _ _ => by simp [execOp, hc, asBool], hσ.ev y, h⟩
  ·exact h.elim
 ·rename_i x
  have hx := hσ.ev x
  split at h
  ·rename_i k off e; rw [e] at hx; generalize hq : a.eval x = q at hx; cases hx with | pt hp ho => exact ⟨_, _, fun _ _ _ _ _ _ => by simp [execOp, hq], .pt hp ho, h⟩
  ·rename_i r z i off e; rw [e] at hx; generalize hq : a.eval x = q at hx; cases hx with | pe hp ho => exact ⟨_, _, fun _ _ _ _ _ _ => by simp [execOp, hq], .pe hp ho, h⟩
  ·rename_i el off e; rw [e] at hx; generalize hq : a.eval x = q at hx; cases hx with | pT h1 h2 h3 h4 => exact ⟨_, _, fun _ _ _ _ _ _ => by simp [execOp, hq], .pT h1 h2 h3 h4, h⟩
  ·exact h.elim
 ·rename_i op t x y yt
  obtain ⟨v, z, h1, h2, h3⟩ := vCmp_ok (P := P) hτ h x y (hσ.ev x) (hσ.ev y)
  exact .mk (fun _ _ _ _ => rfl) (fun w _ => h1 w) h2 h3
 ·rename_i op t x
  have hx := hσ.ev x
  split at h
  ·rename_i b e; rw [e] at hx; obtain ⟨hx, _⟩ := hx.v'; exact .mk (s := Op.unary .not (a.eval x)) (fun _ _ _ _ => rfl) (fun w _ => by rw [hx]; rfl) (.t (.v rfl)) h
  ·rename_i k n e; rw [e] at hx; obtain ⟨hx, _⟩ := hx.v'; exact .mk (s := Op.unary .neg (a.eval x)) (fun _ _ _ _ => rfl) (fun w _ => by rw [hx]; rfl) (.t (.v rfl)) h
  ·exact h.elim
 ·rename_i s d x
  have hx := hσ.ev x
  unfold vConv at h
  cases hc : (τ s).k.ok? with
  | false => simp only [hc, cond_false] at h
  | true =>
   simp only [hc, cond_true] at h
   have hb : (τ s).k ≠ .bad := fun e' => by rw [e'] at hc; cases hc
   obtain ⟨_, ds, _, _, hds, _, _, _⟩ := hτ.get (t := s) rfl hb
   split at h
   ·rename_i k k' n hk e
    rw [e] at hx; obtain ⟨hx, _⟩ := hx.v'
    obtain ⟨_, d', _, _, hdd, _, htk, _⟩ := hτ.get hk (by simp)
    obtain rfl := tk_int htk
    exact .mk (s := convert s d (a.eval x)) (fun _ _ _ _ => rfl) (fun w _ => by rw [hx]; simp [convert, run_underlying hds, run_underlying hdd, Conv.intToInt]) (.t (.v rfl)) h
   ·rename_i b hk e
    rw [e] at hx; obtain ⟨hx, _⟩ := hx.v'
    obtain ⟨_, d', _, _, hdd, _, htk, _⟩ := hτ.get hk (by simp)
    obtain rfl := tk_str htk
    exact .mk (s := convert s d (a.eval x)) (fun _ _ _ _ => rfl) (fun w _ => by rw [hx]; simp [convert, run_underlying hds, run_underlying hdd]) (.t (.v rfl)) h
   ·exact h.elim
 ·rename_i s x f
  obtain ⟨u, y, h1, h2, h3⟩ := vFld_ok (P := P) hτ (hσ.ev x) h
  exact .mk (fun _ _ _ _ => rfl) (fun w _ => h1 w) h2 h3
 ·rename_i t x f
  have hx := hσ.ev x
  split at h
  ·rename_i fs cs hk e
   rw [e] at hx
   split at h
   ·rename_i o ft hf
    obtain ⟨_, d, _, _, hd', _, htk, _⟩ := hτ.get hk (by simp)
    obtain ⟨fl, rfl, rfl⟩ := tk_st htk
    obtain ⟨g, hg, e'⟩ := getElem?_map_some hf
    obtain ⟨rfl, rfl⟩ := Prod.mk.inj e'
    have hga : fl[f]? = some g := by simpa using hg
    generalize hq : a.eval x = q at hx
    cases hx with
    | agg h1 h2 =>
     obtain ⟨u, y, k1, k2, k3⟩ := vPart_ok (P := P) hτ h h1 h2
     exact .mk (s := Instr.field t (a.eval x) f) (fun _ _ _ _ => rfl) (fun w _ => by rw [hq]; simp [Instr.field, run_underlying hd', hga, asAgg, k1]) k2 k3
   ·exact h.elim
  ·exact h.elim
 ·rename_i t x i
  obtain ⟨u, y, h1, h2, h3⟩ := vIdx_ok (P := P) hτ (hσ.ev x) (hσ.ev i) h
  exact .mk (fun _ _ _ _ => rfl) (fun w _ => h1 w) h2 h3
 ·rename_i t x i
  have hx := hσ.ev x
  split at h
  ·rename_i s hk e
   rw [e] at hx; obtain ⟨hx, _⟩ := hx.v'
   obtain ⟨_, d, _, _, hd', _, htk, _⟩ := hτ.get hk (by simp)
   obtain rfl := tk_str htk
   obtain ⟨k, n, hi, h0, h1, h3⟩ := vInt_ok (hσ.ev i) h
   refine .mk (s := Instr.index t (a.eval x) (a.eval i)) (fun _ _ _ _ => rfl) (fun w _ => ?_) (.t (.v rfl)) h3
   rw [hx, hi, run_index_string w t s k n hd', dif_pos ⟨h0, h1⟩]
   have h2 : n.toNat < s.data.toList.length := by have : s.data.toList.length = s.size := Array.length_toList
                                                  omega
   have e1 : s.data.toList.getD n.toNat 0 = s[n.toNat]'(by omega) := by
    rw [List.getD_eq_getElem?_getD, List.getElem?_eq_getElem h2]; rfl
   rw [bAt, e1]
  ·rename_i len el cs hk e
   rw [e] at hx
   obtain ⟨_, d, _, _, hd', _, htk, _⟩ := hτ.get hk (by simp)
   obtain rfl := tk_ar htk
   obtain ⟨k, n, hi, h0, h1, h2⟩ := vInt_ok (hσ.ev i) h
   generalize hq : a.eval x = q at hx
   cases hx with
   | agg g1 g2 =>
    obtain ⟨u, y, k1, k2, k3⟩ := vPart_ok (P := P) hτ h2 g1 g2
    have hb : (τ el).k ≠ .bad := fun e' => by rw [vPart, e'] at h2; exact h2
    refine .mk (s := Instr.index t (a.eval x) (a.eval i)) (fun _ _ _ _ => rfl) (fun w _ => ?_) k2 k3
    rw [hq, hi]
    simp [Instr.index, Go.asIntOf, run_underlying hd', h0, h1, tk_sizeOf hτ w hb, k1]
  ·exact h.elim
 ·rename_i t x lo hi mx
  obtain ⟨u, y, h1, h2, h3⟩ := vSlice_ok (P := P) hτ hσ (hσ.ev x) (fun e => by subst e; simpa [Op.fine] using hf) h
  exact .mk (fun _ _ _ _ => rfl) (fun w _ => h1 w) h2 h3
 ·rename_i t x
  obtain ⟨u, y, b, o, h0, h1, h2, h3⟩ := vLoad_ok (P := P) hτ hσ.rel (hσ.ev x) h
  refine .mk (fun _ _ _ _ => rfl) (fun w0 hl => h1 w0 ?_) h2 h3
  have hx := hσ.ev x
  simp only [Lk] at hl
  split at hl
  ·rename_i e
   rw [e, h0] at hx
   cases hx with
   | pT g1 g2 => exact hl _ g2 g1
  ·rw [hl]
 ·rename_i x i
  have hx := hσ.ev x
  split at h
  ·rename_i vs e
   rw [e] at hx
   split at h
   ·rename_i y hy
    generalize hq : a.eval x = q at hx
    cases hx with
    | @tup _ us g1 g2 =>
     have hlt : i < us.size := by rw [g1]; exact (List.getElem?_eq_some_iff.1 hy).1
     exact .mk (s := Instr.extract (a.eval x) i) (fun _ _ _ _ => rfl) (fun w _ => by rw [hq]; simp [Instr.extract, Array.getElem?_eq_getElem hlt]) (g2 i y _ hy (Array.getElem?_eq_getElem hlt)) h
   ·exact h.elim
  ·exact h.elim
 ·rename_i args ats
  split at h
  ·rename_i t x ht hx
   obtain ⟨v, y, h1, h2, h3⟩ := vLen_ok (P := P) (ty := ty) hτ (hσ.ev x) h
   refine ⟨v, y, fun _ _ _ _ _ _ => ?_, h2, h3⟩
   have hargs : (args.map a.eval)[0]? = some (a.eval x) := by rw [Array.getElem?_map, hx]; rfl
   simp only [execOp, resolve, Sem.run_bind, Sem.run_pure, Result.andThen_ok, invoke, builtin, h1 ats (args.map a.eval) _ ht hargs]
  ·exact h.elim
 ·rename_i args _
  split at h
  ·rename_i x y hl
   split at h
   ·rename_i k m k' n e1 e2
    have hx := hσ.ev x
    have hy := hσ.ev y
    rw [e1] at hx; rw [e2] at hy
    obtain ⟨hx, _⟩ := hx.v'
    obtain ⟨hy, _⟩ := hy.v'
    have hargs : args.map a.eval = #[.int k m, .int k' n] := by
     apply Array.ext'
     rw [Array.toList_map, hl]
     simp [hx, hy]
    exact ⟨.int k (mx2 m n), _, fun _ _ _ _ w _ => by simp [execOp, resolve, invoke, builtin, hargs, Builtin.max_, Builtin.max2, mx2], .t (.v rfl), h⟩
   ·exact h.elim
  ·exact h.elim
 ·exact h.elim

end
end Go.V
