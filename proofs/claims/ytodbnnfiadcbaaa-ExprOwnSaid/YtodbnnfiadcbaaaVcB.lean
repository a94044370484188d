import Derived.Test.YtodbnnfiadcbaaaVcA
import Derived.Laws.StructEq
/- The operations that leave memory as it is. -/
set_option linter.unusedVariables false
set_option linter.unusedSimpArgs false
set_option linter.unusedSectionVars false
namespace Go.V
open Go.RowKit
variable [Wid]

inductive TK where
 | bad | sc | bl | str
 | int (k : IntKind)
 | st (fs : List (Nat × TypeId))
 | ar (len : Nat) (el : TypeId)
 | sl (el : TypeId)
 | mp (key el : TypeId)
 deriving DecidableEq

inductive EK where
 | i | s | b

structure TI where
 k : TK
 n : Nat
 sz : Nat
 z : List Value
 q : List EK

def eqV : List EK → List Value → List Value → Option Bool
 | [], [], [] => some true
 | .i :: ks, .int k a :: xs, .int k' b :: ys => if k = k' then (eqV ks xs ys).map fun r => (a == b) && r else none
 | .s :: ks, .string a :: xs, .string b :: ys => (eqV ks xs ys).map fun r => (a == b) && r
 | .b :: ks, .bool a :: xs, .bool b :: ys => (eqV ks xs ys).map fun r => (a == b) && r
 | _, _, _ => none

def EqOk (P : Program) (t : TypeId) (ks : List EK) : Prop :=
 ∀ (w : World) (xs ys : List Value) (r : Bool), eqV ks xs ys = some r →
  (∀ op x y, (eqGuard op t x y (.agg xs.toArray) (.agg ys.toArray)).run P w = .ok () w) ∧
  (Op.equalIn 10000 t (.agg xs.toArray) (.agg ys.toArray)).run P w = .ok r w

def tkOf : TypeDesc → TK
 | .bool => .bl
 | .int k => .int k
 | .string => .str
 | .slice e => .sl e
 | .array n e => .ar n e
 | .struct fs => .st (fs.toList.map fun f => (f.offset, f.type))
 | .map k e => .mp k e
 | _ => .sc

def tiOf (P : Program) (t : TypeId) : Option TI :=
 match P.info? t, P.underlying t with
 | some i, some d => match i.zero with
  | some z => some ⟨tkOf d, i.size, i.bytes, z.cells.toList, []⟩
  | none => none
 | _, _ => none

abbrev Tys := TypeId → TI
structure Tab (P : Program) (τ : Tys) : Prop where
 ti : ∀ t, (τ t).k ≠ .bad → tiOf P t = some { τ t with q := [] }
 eq : ∀ t, (τ t).q ≠ [] → EqOk P t (τ t).q
 mixed : P.follows .mixedOrders = true
 wid : ∀ t, (τ t).k ≠ .bad → Wid.W t = (τ t).n

theorem Tab.get {P : Program} {τ : Tys} (h : Tab P τ) {t : TypeId} {k : TK} (hk : (τ t).k = k) (hb : k ≠ .bad) :
 ∃ i d z, P.info? t = some i ∧ P.underlying t = some d ∧ i.zero = some z ∧ tkOf d = k ∧ i.size = (τ t).n ∧ i.bytes = (τ t).sz ∧ z.cells.toList = (τ t).z := by
 have := h.ti t (hk ▸ hb)
 unfold tiOf at this
 split at this
 ·rename_i i d hi hd
  split at this
  ·rename_i z hz
   have e := Option.some.inj this
   have e1 : tkOf d = (τ t).k := congrArg TI.k e
   have e2 : i.size = (τ t).n := congrArg TI.n e
   have e3 : i.bytes = (τ t).sz := congrArg TI.sz e
   have e4 : z.cells.toList = (τ t).z := congrArg TI.z e
   exact ⟨i, d, z, hi, hd, hz, e1.trans hk, e2, e3, e4⟩
  ·cases this
 ·cases this

theorem tk_sl {d : TypeDesc} {e : TypeId} (h : tkOf d = .sl e) : d = .slice e := by cases d <;> simp [tkOf] at h; rw [h]
theorem tk_ar {d : TypeDesc} {n : Nat} {e : TypeId} (h : tkOf d = .ar n e) : d = .array n e := by cases d <;> simp [tkOf] at h; rw [h.1, h.2]
theorem tk_str {d : TypeDesc} (h : tkOf d = .str) : d = .string := by cases d <;> simp [tkOf] at h; rfl
theorem tk_int {d : TypeDesc} {k : IntKind} (h : tkOf d = .int k) : d = .int k := by cases d <;> simp [tkOf] at h; rw [h]
theorem tk_st {d : TypeDesc} {fs : List (Nat × TypeId)} (h : tkOf d = .st fs) : ∃ f, d = .struct f ∧ fs = f.toList.map fun f => (f.offset, f.type) := by cases d <;> simp [tkOf] at h; exact ⟨_, rfl, h.symm⟩

def cell0 : Value → AV
 | .slice none n c => bif Nat.beq n 0 && Nat.beq c 0 then .nl else .junk
 | .func (.func f) x y => bif Nat.beq x.size 0 && Nat.beq y.size 0 then .fn f [] else .junk
 | v => bif v.oneCell' then .t (.v v) else .junk

def cAV : Value → AV
 | .agg cs => .agg (cs.toList.map cell0)
 | v => cell0 v

def AS.ev (σ : AS) : Operand → AV
 | .tmp t => bif Nat.blt t σ.n then σ.l t else .junk
 | .const v => cAV v
 | .global _ => .junk
 | .func f => .fn f []

/-! Values are told out before they are laid down: so a state stays as long as it is. -/
def frcN (n : Nat) (K : Nat → Prop) : Prop :=
 match n with
 | 0 => K 0
 | 1 => K 1
 | 2 => K 2
 | 3 => K 3
 | 4 => K 4
 | 5 => K 5
 | 6 => K 6
 | 7 => K 7
 | 8 => K 8
 | 9 => K 9
 | 10 => K 10
 | 11 => K 11
 | 12 => K 12
 | n => K n
def frc0 (x : AV) (K : AV → Prop) : Prop :=
 match x with
 | .t (.v v) => K (.t (.v v))
 | .t (.sl l) => K (.t (.sl l))
 | .t .any => K (.t .any)
 | .rf (k, s) z off n => frcN k fun k => K (.rf (k, s) z off n)
 | .pt k off => frcN k fun k => K (.pt k off)
 | .pe (k, s) z i off => frcN k fun k => K (.pe (k, s) z i off)
 | .pT el off => K (.pT el off)
 | .mp k => frcN k fun k => K (.mp k)
 | .junk => K .junk
 | .nl => K .nl
 | .fn f c => K (.fn f c)
 | .agg c => K (.agg c)
 | .tup c => K (.tup c)
def frcL : List AV → (List AV → Prop) → Prop
 | [], K => K []
 | x :: r, K => frc0 x fun x => frcL r fun r => K (x :: r)
def frc1 (x : AV) (K : AV → Prop) : Prop :=
 match x with
 | .agg c => frcL c fun c => K (.agg c)
 | .fn f c => frcL c fun c => K (.fn f c)
 | x => frc0 x K
def frcM : List AV → (List AV → Prop) → Prop
 | [], K => K []
 | x :: r, K => frc1 x fun x => frcM r fun r => K (x :: r)
def frc (x : AV) (K : AV → Prop) : Prop :=
 match x with
 | .tup c => frcM c fun c => K (.tup c)
 | x => frc1 x K
def frcH : List AO → (List AO → Prop) → Prop
 | [], K => K []
 | .dead :: r, K => frcH r fun r => K (.dead :: r)
 | .st cs :: r, K => frcL cs fun cs => frcH r fun r => K (.st cs :: r)
 | .row s els :: r, K => frcN s fun s => frcH r fun r => K (.row s els :: r)
 | .nest z s els :: r, K => frcN z fun z => frcN s fun s => frcH r fun r => K (.nest z s els :: r)

theorem frcN_iff {n : Nat} {K : Nat → Prop} : frcN n K ↔ K n := by unfold frcN; split <;> exact Iff.rfl
theorem frc0_iff {x : AV} {K : AV → Prop} : frc0 x K ↔ K x := by unfold frc0; split <;> first | exact Iff.rfl | exact frcN_iff
theorem frcL_iff {l : List AV} {K : List AV → Prop} : frcL l K ↔ K l := by
 induction l generalizing K with
 | nil => exact Iff.rfl
 | cons x r ih => exact frc0_iff.trans ih
theorem frc1_iff {x : AV} {K : AV → Prop} : frc1 x K ↔ K x := by unfold frc1; split <;> first | exact frcL_iff | exact frc0_iff
theorem frcM_iff {l : List AV} {K : List AV → Prop} : frcM l K ↔ K l := by
 induction l generalizing K with
 | nil => exact Iff.rfl
 | cons x r ih => exact frc1_iff.trans ih
theorem frc_iff {x : AV} {K : AV → Prop} : frc x K ↔ K x := by unfold frc; split <;> first | exact frcM_iff | exact frc1_iff
theorem frcH_iff {l : List AO} {K : List AO → Prop} : frcH l K ↔ K l := by
 induction l generalizing K with
 | nil => exact Iff.rfl
 | cons x r ih => cases x <;> first | exact ih | exact frcL_iff.trans ih | exact frcN_iff.trans ih | exact frcN_iff.trans (frcN_iff.trans ih)

def upd (l : Nat → AV) (d : Nat) (x : AV) : Nat → AV := fun i => bif Nat.beq i d then x else l i
def AS.put (σ : AS) (d : Nat) (x : AV) : AS := { σ with l := upd σ.l d x }
def AS.on (σ : AS) (K : AS → Prop) : Prop :=
 match σ with
 | ⟨n, l, h, m, e⟩ => K ⟨n, l, h, m, e⟩
def AS.putK (σ : AS) (d : Nat) (x : AV) (K : AS → Prop) : Prop :=
 match σ with
 | ⟨n, l, h, m, e⟩ => K ⟨n, upd l d x, h, m, e⟩
def AS.frc (σ : AS) (K : AS → Prop) : Prop :=
 match σ with
 | ⟨n, l, h, m, e⟩ => frcH h fun h => K ⟨n, l, h, m, e⟩
theorem AS.frc_iff {σ : AS} {K : AS → Prop} : σ.frc K ↔ K σ := frcH_iff

def AS.set (σ : AS) (d : Option Nat) (x : AV) (K : AS → Prop) : Prop :=
 match d with
 | none => K σ
 | some d => bif Nat.blt d σ.n then Go.V.frc x fun x => σ.putK d x K else False

theorem cell0_ok {w : World} {own : Own} {hd : Hd} (v : Value) : VR w own hd (cell0 v) v := by
 have gen : ∀ v : Value, VR w own hd (bif v.oneCell' then AV.t (.v v) else AV.junk) v := fun v => by
  cases h : v.oneCell' with
  | true => exact .t (.v h)
  | false => exact .junk
 cases v with
 | slice a n c =>
  cases a with
  | some a => simp only [cell0]; exact gen _
  | none =>
   simp only [cell0]
   cases h : (Nat.beq n 0 && Nat.beq c 0) with
   | false => exact .junk
   | true =>
    simp only [Bool.and_eq_true] at h
    obtain rfl := Nat.eq_of_beq_eq_true h.1
    obtain rfl := Nat.eq_of_beq_eq_true h.2
    exact .nl
 | func f x y =>
  cases f with
  | func f =>
   simp only [cell0]
   cases h : (Nat.beq x.size 0 && Nat.beq y.size 0) with
   | false => exact .junk
   | true =>
    simp only [Bool.and_eq_true] at h
    have h1 := Array.eq_empty_of_size_eq_zero (Nat.eq_of_beq_eq_true h.1)
    have h2 := Array.eq_empty_of_size_eq_zero (Nat.eq_of_beq_eq_true h.2)
    subst h1; subst h2
    exact .fn rfl (fun i x v h => by simp at h)
  | _ => simp only [cell0]; exact gen _
 | _ => simp only [cell0]; exact gen _

theorem cAV_ok {w : World} {own : Own} {hd : Hd} (v : Value) : VR w own hd (cAV v) v := by
 unfold cAV
 split
 ·rename_i cs
  refine .agg (by simp) (fun i x v hx hv => ?_)
  obtain ⟨y, hy, rfl⟩ := getElem?_map_some hx
  simp at hy
  rw [hv] at hy
  obtain rfl := Option.some.inj hy
  exact cell0_ok v
 ·exact cell0_ok v

section
variable {C : Ctx} {w : World} {own : Own} {hd : Hd} {σ : AS} {a : Act}

theorem SX.ev (h : SX C own hd σ a w) (x : Operand) : VR w own hd (σ.ev x) (a.eval x) := by
 cases x with
 | tmp t =>
  simp only [AS.ev, Act.eval]
  cases hb : Nat.blt t σ.n with
  | true => exact h.slot t (Nat.blt_eq.mp hb)
  | false => exact .junk
 | const v => exact cAV_ok v
 | global g => exact .junk
 | func f => exact .fn rfl (fun i x v h => by simp at h)

theorem SX.put (h : SX C own hd σ a w) {d : Nat} {x : AV} {v : Value} (hd' : d < σ.n) (hx : VR w own hd x v) : SX C own hd (σ.put d x) (a.put (some d) v) w := by
 refine ⟨h.rel, h.fr, h.stay, h.gr, h.le, h.dfr, by simp [Act.put, AS.put, h.size], fun i hi => ?_⟩
 have hi' : i < σ.n := hi
 simp only [AS.put, upd, Act.put]
 by_cases hid : i = d
 ·subst hid
  simp only [Nat.beq_refl, cond_true]
  rw [Array.getD_eq_getD_getElem?, Array.getElem?_setIfInBounds_self_of_lt (by rw [h.size]; exact hi')]
  exact hx
 ·have hb : Nat.beq i d = false := by
   cases hq : Nat.beq i d with
   | false => rfl
   | true => exact absurd (Nat.eq_of_beq_eq_true hq) hid
  rw [hb, cond_false]
  rw [Array.getD_eq_getD_getElem?, Array.getElem?_setIfInBounds_ne (Ne.symm hid), ← Array.getD_eq_getD_getElem?]
  exact h.slot i hi'

theorem SX.set (h : SX C own hd σ a w) {d : Option Nat} {x : AV} {v : Value} {K : AS → Prop} (hx : VR w own hd x v) (hK : σ.set d x K) :
 ∃ σ', SX C own hd σ' (a.put d v) w ∧ K σ' := by
 cases d with
 | none => exact ⟨σ, h, hK⟩
 | some d =>
  unfold AS.set at hK
  cases hb : Nat.blt d σ.n with
  | true => simp only [hb, cond_true] at hK; exact ⟨_, h.put (Nat.blt_eq.mp hb) hx, Go.V.frc_iff.1 hK⟩
  | false => simp only [hb, cond_false] at hK
end

end Go.V
