import Derived.Deep.MidRow
import Derived.Deep.AppendSrc
import Derived.Scope
import Derived.Below
/- A clean machine over values that are never changed, and owned memory: its states, and what they say of the model's. -/
set_option linter.unusedVariables false
set_option linter.unusedSimpArgs false
set_option linter.unusedSectionVars false
namespace Go.V
open Go.RowKit

inductive T where
 | v (x : Value)
 | sl (els : List (List T))
 | any
 deriving Inhabited
class Wid where
 W : TypeId → Nat
variable [Wid]

abbrev Key := Nat × Option Nat

inductive AV where
 | junk
 | nl
 | t (x : T)
 | rf (r : Key) (z off n : Nat)
 | pt (k off : Nat)
 | pe (r : Key) (z i off : Nat)
 | pT (el : List T) (off : Nat)
 | mp (k : Nat)
 | fn (f : Nat) (cap : List AV)
 | agg (cs : List AV)
 | tup (vs : List AV)
 deriving Inhabited

abbrev AV.int (k : IntKind) (n : Int) : AV := .t (.v (.int k n))
abbrev AV.i (n : Int) : AV := .t (.v (.int .i64 n))
abbrev AV.b (b : Bool) : AV := .t (.v (.bool b))
abbrev AV.s (b : ByteArray) : AV := .t (.v (.string b))

inductive AO where
 | dead
 | st (cs : List AV)
 | row (s : Nat) (els : List (List T))
 | nest (z s : Nat) (els : List (List T × List (List T)))
 deriving Inhabited

structure AS where
 n : Nat
 l : Nat → AV
 h : List AO
 m : List Nat
 e : Nat

abbrev Own := Nat → Option (Option Key)
abbrev ow (r : Key) : Option (Option Key) := some (some r)
abbrev ext : Option (Option Key) := some none
abbrev Hd := Key → Option (Nat × Nat) × Nat

abbrev Pln (w : World) (b s : Nat) : Prop := ∃ c t, w.heap[b]? = some (.cells c t (0, 0)) ∧ Wid.W t = s
abbrev scalE (els : List (List T)) : Prop := ∀ (i : Nat) (el : List T) (j : Nat) (t : T), els[i]? = some el → el[j]? = some t → ∃ x, t = .v x
inductive TV (w : World) (own : Own) : T → Value → Prop
 | v {x : Value} : x.oneCell' = true → TV w own (.v x) x
 | any {x : Value} : x.oneCell' = true → TV w own .any x
 | nil {a : Option Addr} {cap : Nat} : TV w own (.sl []) (.slice a 0 cap)
 | sl {els : List (List T)} {b o cap s : Nat} : own b = none → b < w.heap.size → els.length ≤ cap → els.length ≤ 9223372036854775807 →
  (∀ (i : Nat) (el : List T), els[i]? = some el → el.length = s) →
  (∀ (i : Nat) (el : List T) (j : Nat) (t : T), els[i]? = some el → el[j]? = some t → (w.cell? ⟨b, o + (i * s + j), none⟩).isSome = true) →
  (∀ (i : Nat) (el : List T) (j : Nat) (t : T) (v : Value), els[i]? = some el → el[j]? = some t → w.cell? ⟨b, o + (i * s + j), none⟩ = some v → TV w own t v) →
  Pln w b s ∨ (s = 1 ∧ scalE els) →
  (∀ j, j < cap * s → (w.cell? ⟨b, o + j, none⟩).isSome = true) →
  TV w own (.sl els) (.slice (some ⟨b, o, none⟩) els.length cap)

inductive VR (w : World) (own : Own) (hd : Hd) : AV → Value → Prop
 | junk {v} : VR w own hd .junk v
 | nl {a : Option Addr} : VR w own hd .nl (.slice a 0 0)
 | t {x v} : TV w own x v → VR w own hd (.t x) v
 | rf {r z off n c a} : n ≤ c →
  (c ≠ 0 → ∃ p, (hd r).1 = some p ∧ own p.1 = ow r ∧ off + c ≤ (hd r).2 ∧ a = some ⟨p.1, p.2 + off * z, none⟩) → VR w own hd (.rf r z off n) (.slice a n c)
 | pt {k off p} : (hd (k, none)).1 = some p → own p.1 = ow (k, none) → VR w own hd (.pt k off) (.pointer (some ⟨p.1, p.2 + off, none⟩))
 | pe {r z i off p} : (hd r).1 = some p → own p.1 = ow r → VR w own hd (.pe r z i off) (.pointer (some ⟨p.1, p.2 + (i * z + off), none⟩))
 | pT {el : List T} {off b o : Nat} : own b = none → b < w.heap.size →
  (∀ (j : Nat) (t : T), el[j]? = some t → (w.cell? ⟨b, o + j, none⟩).isSome = true) →
  (∀ (j : Nat) (t : T) (v : Value), el[j]? = some t → w.cell? ⟨b, o + j, none⟩ = some v → TV w own t v) →
  VR w own hd (.pT el off) (.pointer (some ⟨b, o + off, none⟩))
 | mp {k p} : (hd (k, none)).1 = some p → own p.1 = ow (k, none) → VR w own hd (.mp k) (.map (some p.1))
 | fn {f : Nat} {cap : List AV} {vs : Array Value} : vs.size = cap.length → (∀ (i : Nat) (x : AV) (v : Value), cap[i]? = some x → vs[i]? = some v → VR w own hd x v) →
  VR w own hd (.fn f cap) (.func (.func f) #[] vs)
 | agg {cs : List AV} {vs : Array Value} : vs.size = cs.length → (∀ (i : Nat) (x : AV) (v : Value), cs[i]? = some x → vs[i]? = some v → VR w own hd x v) →
  VR w own hd (.agg cs) (.agg vs)
 | tup {cs : List AV} {vs : Array Value} : vs.size = cs.length → (∀ (i : Nat) (x : AV) (v : Value), cs[i]? = some x → vs[i]? = some v → VR w own hd x v) →
  VR w own hd (.tup cs) (.tuple vs)

structure RowAt (w : World) (own : Own) (hd : Hd) (r : Key) (s : Nat) (els : List (List T)) : Prop where
 len : ∀ (i : Nat) (el : List T), els[i]? = some el → el.length = s
 max : els.length ≤ 9223372036854775807
 le : els.length ≤ (hd r).2
 nil : (hd r).1 = none → (hd r).2 = 0
 mine : ∀ p, (hd r).1 = some p → own p.1 = ow r
 pln : ∀ p, (hd r).1 = some p → Pln w p.1 s
 there : ∀ p, (hd r).1 = some p → w.there p.1 p.2 ((hd r).2 * s)
 cell : ∀ (p : Nat × Nat) (i : Nat) (el : List T) (j : Nat) (t : T), (hd r).1 = some p → els[i]? = some el → el[j]? = some t → ∃ v, w.cell? ⟨p.1, p.2 + (i * s + j), none⟩ = some v ∧ TV w own t v

structure StAt (w : World) (own : Own) (hd : Hd) (k : Nat) (cs : List AV) (p : Nat × Nat) : Prop where
 adr : (hd (k, none)).1 = some p
 mine : own p.1 = ow (k, none)
 there : w.there p.1 p.2 cs.length
 cell : ∀ (j : Nat) (x : AV), cs[j]? = some x → ∃ v, w.cell? ⟨p.1, p.2 + j, none⟩ = some v ∧ VR w own hd x v ∧ v.oneCell' = true

structure NestAt (w : World) (own : Own) (hd : Hd) (k z s : Nat) (els : List (List T × List (List T))) : Prop where
 max : els.length ≤ 9223372036854775807
 le : els.length ≤ (hd (k, none)).2
 nil : (hd (k, none)).1 = none → (hd (k, none)).2 = 0
 mine : ∀ p, (hd (k, none)).1 = some p → own p.1 = ow (k, none)
 pln : ∀ p, (hd (k, none)).1 = some p → Pln w p.1 z
 there : ∀ p, (hd (k, none)).1 = some p → w.there p.1 p.2 ((hd (k, none)).2 * z)
 len : ∀ (i : Nat) (pre : List T) (inner : List (List T)), els[i]? = some (pre, inner) → pre.length + 1 = z
 pre : ∀ (p : Nat × Nat) (i : Nat) (pre : List T) (inner : List (List T)) (j : Nat) (t : T), (hd (k, none)).1 = some p → els[i]? = some (pre, inner) → pre[j]? = some t →
  ∃ v, w.cell? ⟨p.1, p.2 + (i * z + j), none⟩ = some v ∧ TV w own t v
 sl : ∀ (p : Nat × Nat) (i : Nat) (pre : List T) (inner : List (List T)), (hd (k, none)).1 = some p → els[i]? = some (pre, inner) →
  ∃ v, w.cell? ⟨p.1, p.2 + (i * z + pre.length), none⟩ = some v ∧ (∃ a c, v = .slice a inner.length c) ∧ (0 < inner.length → VR w own hd (.rf (k, some i) s 0 inner.length) v)
 sub : ∀ (i : Nat) (pre : List T) (inner : List (List T)), els[i]? = some (pre, inner) → RowAt w own hd (k, some i) s inner

def ObjAt (w : World) (own : Own) (hd : Hd) (k : Nat) : AO → Prop
 | .dead => True
 | .st cs => ∃ p, StAt w own hd k cs p
 | .row s els => RowAt w own hd (k, none) s els
 | .nest z s els => NestAt w own hd k z s els

structure Rel (own : Own) (hd : Hd) (h : List AO) (w : World) : Prop where
 obj : ∀ k o, h[k]? = some o → ObjAt w own hd k o
 dom : ∀ b r, own b = ow r → b < w.heap.size ∧ r.1 < h.length
 lt : ∀ b, own b = ext → b < w.heap.size

structure Fr (w : World) (own : Own) (w' : World) (own' : Own) : Prop where
 os : w'.os = w.os
 tape : w'.tape = w.tape
 output : w'.output = w.output
 size : w.heap.size ≤ w'.heap.size
 blk : ∀ b, b < w.heap.size → own b = none → w'.heap[b]? = w.heap[b]? ∧ own' b = none
 ex : ∀ b, own b = ext → w'.heap[b]? = w.heap[b]? ∧ own' b = ext
 ey : ∀ b, own' b = ext → own b = ext

/-! ### Kept: what others do leaves a value as it was -/

structure Keep (w : World) (own : Own) (w' : World) (own' : Own) : Prop where
 size : w.heap.size ≤ w'.heap.size
 blk : ∀ b, b < w.heap.size → own b = none → w'.heap[b]? = w.heap[b]? ∧ own' b = none

theorem Fr.keep {w w' : World} {own own' : Own} (h : Fr w own w' own') : Keep w own w' own' := ⟨h.size, h.blk⟩

theorem TV.keep {w w' : World} {own own' : Own} (hk : Keep w own w' own') {x : T} {v : Value} (h : TV w own x v) : TV w' own' x v := by
 induction h with
 | v h => exact .v h
 | any h => exact .any h
 | nil => exact .nil
 | @sl els b o cap s ho hb hle hmx hlen hc hv hpl hth ih =>
  have hk' := hk.blk b hb ho
  have same : ∀ o', w'.cell? ⟨b, o', none⟩ = w.cell? ⟨b, o', none⟩ := fun o' => World.cell?_of_block hk'.1
  refine .sl hk'.2 (Nat.lt_of_lt_of_le hb hk.size) hle hmx hlen (fun i el j t h1 h2 => by rw [same]; exact hc i el j t h1 h2) (fun i el j t v h1 h2 h3 => ?_) (hpl.imp (fun ⟨c, t, h, e⟩ => ⟨c, t, hk'.1.trans h, e⟩) id) (fun j hj => by rw [same]; exact hth j hj)
  rw [same] at h3
  exact ih i el j t v h1 h2 h3

def AV.scrub0 (p : Nat → Bool) : AV → AV
 | .rf r z off n => bif p r.1 then .rf r z off n else .junk
 | .pt k off => bif p k then .pt k off else .junk
 | .pe r z i off => bif p r.1 then .pe r z i off else .junk
 | .mp k => bif p k then .mp k else .junk
 | .nl => .nl
 | .t x => .t x
 | .pT el off => .pT el off
 | _ => .junk
def AV.scrub1 (p : Nat → Bool) : AV → AV
 | .agg cs => .agg (cs.map (AV.scrub0 p))
 | .fn f cs => .fn f (cs.map (AV.scrub0 p))
 | x => x.scrub0 p
def AV.scrub (p : Nat → Bool) : AV → AV
 | .tup cs => .tup (cs.map (AV.scrub1 p))
 | x => x.scrub1 p

def Stay (own : Own) (hd : Hd) (own' : Own) (hd' : Hd) (p : Nat → Bool) : Prop := ∀ r b, p r.1 = true → own b = ow r → hd' r = hd r ∧ own' b = ow r

section
variable {w w' : World} {own own' : Own} {hd hd' : Hd} {p : Nat → Bool}
theorem VR.rf' (hk : Keep w own w' own') (hh : Stay own hd own' hd' p) {r : Key} {z off n c : Nat} {a : Option Addr} (hp : p r.1 = true) (h1 : n ≤ c)
 (h2 : c ≠ 0 → ∃ p, (hd r).1 = some p ∧ own p.1 = ow r ∧ off + c ≤ (hd r).2 ∧ a = some ⟨p.1, p.2 + off * z, none⟩) : VR w' own' hd' (.rf r z off n) (.slice a n c) :=
 .rf h1 fun hc => by
  obtain ⟨q, e1, e2, e3, e4⟩ := h2 hc
  obtain ⟨f1, f2⟩ := hh r _ hp e2
  exact ⟨q, by rw [f1]; exact e1, f2, by rw [f1]; exact e3, e4⟩
theorem VR.pT' (hk : Keep w own w' own') {el : List T} {off b o : Nat} (ho : own b = none) (hb : b < w.heap.size)
 (hc : ∀ (j : Nat) (t : T), el[j]? = some t → (w.cell? ⟨b, o + j, none⟩).isSome = true)
 (hv : ∀ (j : Nat) (t : T) (v : Value), el[j]? = some t → w.cell? ⟨b, o + j, none⟩ = some v → TV w own t v) : VR w' own' hd' (.pT el off) (.pointer (some ⟨b, o + off, none⟩)) := by
 have hk' := hk.blk b hb ho
 have same : ∀ o', w'.cell? ⟨b, o', none⟩ = w.cell? ⟨b, o', none⟩ := fun o' => World.cell?_of_block hk'.1
 exact .pT hk'.2 (Nat.lt_of_lt_of_le hb hk.size) (fun j t h1 => by rw [same]; exact hc j t h1) (fun j t v h1 h2 => by rw [same] at h2; exact (hv j t v h1 h2).keep hk)
theorem VR.keep0 (hk : Keep w own w' own') (hh : Stay own hd own' hd' p) {x : AV} {v : Value} (h : VR w own hd x v) : VR w' own' hd' (x.scrub0 p) v := by
 cases h with
 | junk => exact .junk
 | nl => exact .nl
 | t h => exact .t (h.keep hk)
 | @rf r z off n c a h1 h2 =>
  cases hp : p r.1 with
  | false => simp only [AV.scrub0, hp, cond_false]; exact .junk
  | true => simp only [AV.scrub0, hp, cond_true]; exact VR.rf' hk hh hp h1 h2
 | @pt k off q h1 h2 =>
  cases hp : p k with
  | false => simp only [AV.scrub0, hp, cond_false]; exact .junk
  | true => simp only [AV.scrub0, hp, cond_true]; obtain ⟨f1, f2⟩ := hh (k, none) _ hp h2; exact .pt (by rw [f1]; exact h1) f2
 | @pe r z i off q h1 h2 =>
  cases hp : p r.1 with
  | false => simp only [AV.scrub0, hp, cond_false]; exact .junk
  | true => simp only [AV.scrub0, hp, cond_true]; obtain ⟨f1, f2⟩ := hh r _ hp h2; exact .pe (by rw [f1]; exact h1) f2
 | pT ho hb hc hv => exact VR.pT' hk ho hb hc hv
 | @mp k q h1 h2 =>
  cases hp : p k with
  | false => simp only [AV.scrub0, hp, cond_false]; exact .junk
  | true => simp only [AV.scrub0, hp, cond_true]; obtain ⟨f1, f2⟩ := hh (k, none) _ hp h2; exact .mp (by rw [f1]; exact h1) f2
 | fn => exact .junk
 | agg => exact .junk
 | tup => exact .junk
theorem getElem?_map_some {α β : Type} {f : α → β} {l : List α} {i : Nat} {y : β} (h : (l.map f)[i]? = some y) : ∃ x, l[i]? = some x ∧ y = f x := by
 rw [List.getElem?_map] at h
 cases hx : l[i]? with
 | none => simp [hx] at h
 | some x => simp [hx] at h; exact ⟨x, rfl, h.symm⟩
theorem VR.keep1 (hk : Keep w own w' own') (hh : Stay own hd own' hd' p) {x : AV} {v : Value} (h : VR w own hd x v) : VR w' own' hd' (x.scrub1 p) v := by
 cases h with
 | agg h1 h2 => exact .agg (by simpa using h1) (fun i x v hx hv => by obtain ⟨y, hy, rfl⟩ := getElem?_map_some hx; exact (h2 i y v hy hv).keep0 hk hh)
 | fn h1 h2 => exact .fn (by simpa using h1) (fun i x v hx hv => by obtain ⟨y, hy, rfl⟩ := getElem?_map_some hx; exact (h2 i y v hy hv).keep0 hk hh)
 | junk => exact VR.keep0 hk hh .junk
 | nl => exact VR.keep0 hk hh .nl
 | t h => exact VR.keep0 hk hh (.t h)
 | rf h1 h2 => exact VR.keep0 hk hh (.rf h1 h2)
 | pt h h' => exact VR.keep0 hk hh (.pt h h')
 | pe h h' => exact VR.keep0 hk hh (.pe h h')
 | pT h1 h2 h3 h4 => exact VR.keep0 hk hh (.pT h1 h2 h3 h4)
 | mp h h' => exact VR.keep0 hk hh (.mp h h')
 | tup => exact .junk
theorem VR.keep (hk : Keep w own w' own') (hh : Stay own hd own' hd' p) {x : AV} {v : Value} (h : VR w own hd x v) : VR w' own' hd' (x.scrub p) v := by
 cases h with
 | tup h1 h2 => exact .tup (by simpa using h1) (fun i x v hx hv => by obtain ⟨y, hy, rfl⟩ := getElem?_map_some hx; exact (h2 i y v hy hv).keep1 hk hh)
 | junk => exact VR.keep1 hk hh .junk
 | nl => exact VR.keep1 hk hh .nl
 | t h => exact VR.keep1 hk hh (.t h)
 | rf h1 h2 => exact VR.keep1 hk hh (.rf h1 h2)
 | pt h h' => exact VR.keep1 hk hh (.pt h h')
 | pe h h' => exact VR.keep1 hk hh (.pe h h')
 | pT h1 h2 h3 h4 => exact VR.keep1 hk hh (.pT h1 h2 h3 h4)
 | mp h h' => exact VR.keep1 hk hh (.mp h h')
 | fn h1 h2 => exact VR.keep1 hk hh (.fn h1 h2)
 | agg h1 h2 => exact VR.keep1 hk hh (.agg h1 h2)
theorem VR.same (hk : Keep w own w' own') (hh : Stay own hd own' hd' fun _ => true) {x : AV} {v : Value} (h : VR w own hd x v) : VR w' own' hd' x v := by
 induction h with
 | junk => exact .junk
 | nl => exact .nl
 | t h => exact .t (h.keep hk)
 | rf h1 h2 => exact VR.rf' hk hh rfl h1 h2
 | @pt k off q h1 h2 => obtain ⟨f1, f2⟩ := hh (k, none) _ rfl h2; exact .pt (by rw [f1]; exact h1) f2
 | @pe r z i off q h1 h2 => obtain ⟨f1, f2⟩ := hh r _ rfl h2; exact .pe (by rw [f1]; exact h1) f2
 | pT ho hb hc hv => exact VR.pT' hk ho hb hc hv
 | @mp k q h1 h2 => obtain ⟨f1, f2⟩ := hh (k, none) _ rfl h2; exact .mp (by rw [f1]; exact h1) f2
 | fn h1 _ ih => exact .fn h1 ih
 | agg h1 _ ih => exact .agg h1 ih
 | tup h1 _ ih => exact .tup h1 ih
end

theorem there_of_block {w w' : World} {b o n : Nat} (h : w'.heap[b]? = w.heap[b]?) (ht : w.there b o n) : w'.there b o n := fun j hj => by
 rw [World.cell?_of_block (w := w) (w' := w') h, World.frozen?_of_block (w := w) (w' := w') h]; exact ht j hj

theorem RowAt.to {w w' : World} {own own' : Own} {hd hd' : Hd} {r r' : Key} {s : Nat} {els : List (List T)} (h : RowAt w own hd r s els) (hk : Keep w own w' own') (hh : hd' r' = hd r)
 (hb : ∀ b, own b = ow r → w'.heap[b]? = w.heap[b]? ∧ own' b = ow r') : RowAt w' own' hd' r' s els := by
 obtain ⟨h1, h0, h2, h3, h4, h9, h5, h6⟩ := h
 refine ⟨h1, h0, by rw [hh]; exact h2, by rw [hh]; exact h3, fun q hq => ?_, (fun q hq => by rw [hh] at hq; obtain ⟨c, t, e, e2⟩ := h9 q hq; exact ⟨c, t, (hb _ (h4 q hq)).1.trans e, e2⟩), fun q hq => ?_, fun q i el j t hq he hj => ?_⟩
 ·rw [hh] at hq; exact (hb _ (h4 q hq)).2
 ·rw [hh] at hq ⊢; exact there_of_block (hb _ (h4 q hq)).1 (h5 q hq)
 ·rw [hh] at hq
  obtain ⟨v, hv, ht⟩ := h6 q i el j t hq he hj
  exact ⟨v, (World.cell?_of_block (a := ⟨q.1, q.2 + (i * s + j), none⟩) (hb _ (h4 q hq)).1).trans hv, ht.keep hk⟩
theorem NestAt.to {w w' : World} {own own' : Own} {hd hd' : Hd} {k k' z s : Nat} {els : List (List T × List (List T))} (h : NestAt w own hd k z s els) (hk : Keep w own w' own') (hh : ∀ s, hd' (k', s) = hd (k, s))
 (hb : ∀ b s, own b = ow (k, s) → w'.heap[b]? = w.heap[b]? ∧ own' b = ow (k', s)) : NestAt w' own' hd' k' z s els := by
 obtain ⟨h0, h2, h3, h4, h9, h5, hl, h6, h7, h8⟩ := h
 refine ⟨h0, by rw [hh]; exact h2, by rw [hh]; exact h3, fun q hq => ?_, (fun q hq => by rw [hh] at hq; obtain ⟨c, t, e, e2⟩ := h9 q hq; exact ⟨c, t, (hb _ _ (h4 q hq)).1.trans e, e2⟩), fun q hq => ?_, hl, fun q i pre inner j t hq he hj => ?_, fun q i pre inner hq he => ?_, fun i pre inner he => (h8 i pre inner he).to hk (hh _) (fun b ho => hb b _ ho)⟩
 ·rw [hh] at hq; exact (hb _ _ (h4 q hq)).2
 ·rw [hh] at hq ⊢; exact there_of_block (hb _ _ (h4 q hq)).1 (h5 q hq)
 ·rw [hh] at hq
  obtain ⟨v, hv, ht⟩ := h6 q i pre inner j t hq he hj
  exact ⟨v, (World.cell?_of_block (a := ⟨q.1, q.2 + (i * z + j), none⟩) (hb _ _ (h4 q hq)).1).trans hv, ht.keep hk⟩
 ·rw [hh] at hq
  obtain ⟨v, hv, hs, ht⟩ := h7 q i pre inner hq he
  refine ⟨v, (World.cell?_of_block (a := ⟨q.1, q.2 + (i * z + pre.length), none⟩) (hb _ _ (h4 q hq)).1).trans hv, hs, fun hp => ?_⟩
  cases ht hp with
  | rf g1 g2 => exact .rf g1 fun hc => by obtain ⟨p, e1, e2, e3, e4⟩ := g2 hc; exact ⟨p, by rw [hh]; exact e1, (hb _ _ e2).2, by rw [hh]; exact e3, e4⟩

def AO.scrub (p : Nat → Bool) : AO → AO
 | .st cs => .st (cs.map (AV.scrub0 p))
 | o => o

theorem ObjAt.keep {w w' : World} {own own' : Own} {hd hd' : Hd} {p : Nat → Bool} (hk : Keep w own w' own') (hh : Stay own hd own' hd' p)
 {k : Nat} {o : AO} (h : ObjAt w own hd k o) (hs : ∀ s, hd' (k, s) = hd (k, s)) (hb : ∀ b s, own b = ow (k, s) → w'.heap[b]? = w.heap[b]? ∧ own' b = own b) :
 ObjAt w' own' hd' k (o.scrub p) := by
 cases o with
 | dead => trivial
 | st cs =>
  obtain ⟨q, h1, h2, h3, h4⟩ := h
  obtain ⟨e1, e2⟩ := hb _ _ h2
  refine ⟨q, by rw [hs]; exact h1, by rw [e2]; exact h2, by rw [List.length_map]; exact there_of_block e1 h3, fun j x hx => ?_⟩
  obtain ⟨y, hy, rfl⟩ := getElem?_map_some hx
  obtain ⟨v, hv, hr, ho⟩ := h4 j y hy
  exact ⟨v, (World.cell?_of_block (a := ⟨q.1, q.2 + j, none⟩) e1).trans hv, hr.keep0 hk hh, ho⟩
 | row s els =>
  obtain ⟨h1, h0, h2, h3, h4, h9, h5, h6⟩ := h
  refine ⟨h1, h0, by rw [hs]; exact h2, by rw [hs]; exact h3, fun q hq => ?_, (fun q hq => by rw [hs] at hq; obtain ⟨c, t, e, e2⟩ := h9 q hq; exact ⟨c, t, (hb _ _ (h4 q hq)).1.trans e, e2⟩), fun q hq => ?_, fun q i el j t hq he hj => ?_⟩
  ·rw [hs] at hq; rw [(hb _ _ (h4 q hq)).2]; exact h4 q hq
  ·rw [hs] at hq ⊢; exact there_of_block (hb _ _ (h4 q hq)).1 (h5 q hq)
  ·rw [hs] at hq
   obtain ⟨v, hv, ht⟩ := h6 q i el j t hq he hj
   exact ⟨v, (World.cell?_of_block (a := ⟨q.1, q.2 + (i * s + j), none⟩) (hb _ _ (h4 q hq)).1).trans hv, ht.keep hk⟩
 | nest z s els => exact NestAt.to h hk hs (fun b s ho => ⟨(hb b s ho).1, (hb b s ho).2.trans ho⟩)

theorem ObjAt.same {w w' : World} {own own' : Own} {hd hd' : Hd} (hk : Keep w own w' own') (hh : Stay own hd own' hd' fun _ => true)
 {k : Nat} {o : AO} (h : ObjAt w own hd k o) (hs : ∀ s, hd' (k, s) = hd (k, s)) (hb : ∀ b s, own b = ow (k, s) → w'.heap[b]? = w.heap[b]? ∧ own' b = own b) : ObjAt w' own' hd' k o := by
 cases o with
 | dead => trivial
 | st cs =>
  obtain ⟨q, h1, h2, h3, h4⟩ := h
  obtain ⟨e1, e2⟩ := hb _ _ h2
  refine ⟨q, by rw [hs]; exact h1, by rw [e2]; exact h2, there_of_block e1 h3, fun j x hx => ?_⟩
  obtain ⟨v, hv, hr, ho⟩ := h4 j x hx
  exact ⟨v, (World.cell?_of_block (a := ⟨q.1, q.2 + j, none⟩) e1).trans hv, hr.same hk hh, ho⟩
 | row s els =>
  obtain ⟨h1, h0, h2, h3, h4, h9, h5, h6⟩ := h
  refine ⟨h1, h0, by rw [hs]; exact h2, by rw [hs]; exact h3, fun q hq => ?_, (fun q hq => by rw [hs] at hq; obtain ⟨c, t, e, e2⟩ := h9 q hq; exact ⟨c, t, (hb _ _ (h4 q hq)).1.trans e, e2⟩), fun q hq => ?_, fun q i el j t hq he hj => ?_⟩
  ·rw [hs] at hq; rw [(hb _ _ (h4 q hq)).2]; exact h4 q hq
  ·rw [hs] at hq ⊢; exact there_of_block (hb _ _ (h4 q hq)).1 (h5 q hq)
  ·rw [hs] at hq
   obtain ⟨v, hv, ht⟩ := h6 q i el j t hq he hj
   exact ⟨v, (World.cell?_of_block (a := ⟨q.1, q.2 + (i * s + j), none⟩) (hb _ _ (h4 q hq)).1).trans hv, ht.keep hk⟩
 | nest z s els => exact NestAt.to h hk hs (fun b s ho => ⟨(hb b s ho).1, (hb b s ho).2.trans ho⟩)

theorem Keep.refl (w : World) (own : Own) : Keep w own w own := ⟨Nat.le_refl _, fun _ _ h => ⟨rfl, h⟩⟩
theorem Fr.refl (w : World) (own : Own) : Fr w own w own := ⟨rfl, rfl, rfl, Nat.le_refl _, fun _ _ h => ⟨rfl, h⟩, fun _ h => ⟨rfl, h⟩, fun _ h => h⟩
theorem Fr.trans {w w1 w2 : World} {own own1 own2 : Own} (h : Fr w own w1 own1) (k : Fr w1 own1 w2 own2) : Fr w own w2 own2 :=
 ⟨k.os.trans h.os, k.tape.trans h.tape, k.output.trans h.output, Nat.le_trans h.size k.size, fun b hb ho => by
  obtain ⟨e1, o1⟩ := h.blk b hb ho
  obtain ⟨e2, o2⟩ := k.blk b (Nat.lt_of_lt_of_le hb h.size) o1
  exact ⟨e2.trans e1, o2⟩, fun b ho => by
  obtain ⟨e1, o1⟩ := h.ex b ho
  obtain ⟨e2, o2⟩ := k.ex b o1
  exact ⟨e2.trans e1, o2⟩, fun b ho => h.ey b (k.ey b ho)⟩

structure Ctx where
 w : World
 own : Own
 hd : Hd
 e : Nat
 m : List Nat := []

def AS.um (m : List Nat) : Nat → Bool := fun i => !(m.contains i)
def Ctx.um (C : Ctx) (m : List Nat) : Nat → Bool := fun i => Nat.blt i C.e && !(m.contains i)

structure SX (C : Ctx) (own : Own) (hd : Hd) (σ : AS) (a : Act) (w : World) : Prop where
 rel : Rel own hd σ.h w
 fr : Fr C.w C.own w own
 stay : Stay C.own C.hd own hd (C.um σ.m)
 gr : ∀ i, C.m.contains i = true → σ.m.contains i = true
 le : C.e ≤ σ.e
 dfr : a.defers = []
 size : a.tmps.size = σ.n
 slot : ∀ i, i < σ.n → VR w own hd (σ.l i) (a.tmps.getD i undef)

theorem Stay.trans {own own1 own2 : Own} {hd hd1 hd2 : Hd} {p q r : Nat → Bool} (h : Stay own hd own1 hd1 p) (k : Stay own1 hd1 own2 hd2 q) (hp : ∀ i, r i = true → p i = true ∧ q i = true) : Stay own hd own2 hd2 r := fun x b hr hb => by
 obtain ⟨e1, o1⟩ := h x b (hp _ hr).1 hb
 obtain ⟨e2, o2⟩ := k x b (hp _ hr).2 o1
 exact ⟨e2.trans e1, o2⟩

end Go.V
