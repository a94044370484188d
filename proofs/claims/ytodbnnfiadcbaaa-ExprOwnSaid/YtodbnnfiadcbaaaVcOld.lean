/- expr.Has walked (its ends known so far are kept in a map), and what that needs of earlier texts. -/
import Derived.Test.YtodbnnfiadcbaaaVcDf
import Derived.Test.YtodbnnfiadcbaaaProg
import Derived.Below
import Derived.Deep.Draws
import Derived.Deep.AppendLies
import Derived.Maps.AppendAt
import Derived.OwnWalk
import Derived.Laws.BytesArg
import Derived.Laws.MakeOwn
import Derived.Laws.OwnMore
import Derived.Deep.OwnRows
import Derived.Tactics
import Derived.Lib.ConvBytes
import Derived.Laws.Slices
import Derived.WalkKit
import Derived.KernelRfl
import Derived.RowKit3
import Derived.Deep.LoopGhost
import Derived.Deep.QuietTactic
import Derived.BigQuiet
import Derived.WideLaws
import Derived.Deep.DeepCutAuto
import Derived.Deep.CutBlock
import Derived.Deep.RegionHeld3
import Derived.Laws.Rows
import Derived.Lib.AppendStr
import Derived.ArgAppend
import Derived.Laws.IdiomCopy
import Derived.RowKit
import Derived.OrdersHeld
import Derived.Laws.BitsLemmas
import Derived.Laws.StructEq
import Derived.SizedLaws
import Derived.ChangeSlices
import Derived.Shelf.Strings.Builder1
import Derived.Shelf.Strings.Builder2
import Derived.Shelf.Strings.OnBuilder
import Derived.Shelf.Small.Strs
import Derived.Shelf.Strings.Search1
import Derived.Shelf.Strings.Prefix
import Derived.ScopeJumps
import Derived.LaidEqlPtr
import Derived.LaidEql
import Derived.MapKept
import Derived.WideMake
import Derived.Deep.Cut
import Derived.StillTailTactics
import Derived.ProofKit
import Derived.OpenShut
import Derived.ShutString
import Derived.ChangeOld
set_option linter.unusedVariables false
set_option linter.unusedSimpArgs false
set_option linter.unusedSectionVars false
namespace Go.Proofs.YtodbnnfiadcbaaaW.PrintWords
end Go.Proofs.YtodbnnfiadcbaaaW.PrintWords
namespace Go.Proofs.YtodbnnfiadcbaaaW.PrintLast
end Go.Proofs.YtodbnnfiadcbaaaW.PrintLast
namespace Go.Proofs.YtodbnnfiadcbaaaW.PrintMore
end Go.Proofs.YtodbnnfiadcbaaaW.PrintMore
namespace Go.Proofs.Ytodbnnfiadcbaaa.P
end Go.Proofs.Ytodbnnfiadcbaaa.P
open Go.Proofs.Ytodbnnfiadcbaaa.P
section
set_option linter.unusedVariables false
set_option linter.unusedSimpArgs false
namespace Go.Proofs.YtodbnnfiadcbaaaW.PrintWords
open Go.RowKit
structure Aside0 (p : Prop) : Prop where mk :: (out : p)
structure Drawn0 (w w' : World) : Prop where mk :: (out : ∃ n, w' = w.drewN n)
theorem Drawn0.refl (w : World) : Drawn0 w w := ⟨⟨0, rfl⟩⟩
theorem Drawn0.step {w w' : World} (h : Drawn0 w w') (n : Nat) : Drawn0 w (w'.drewN n) := by
 obtain ⟨m, rfl⟩ := h
 exact ⟨⟨m + n, World.drewN_drewN ..⟩⟩
theorem Drawn0.grown {w w' : World} (h : Drawn0 w w') : Grown w w' := by
 obtain ⟨n, rfl⟩ := h
 induction n with
 | zero => exact Grown.refl _
 | succ n ih => rw [← World.drew_drewN]; exact Grown.drew ih
theorem Drawn0.below {w w' : World} (h : Drawn0 w w') : Below w.heap.size w w' := by
 obtain ⟨n, rfl⟩ := h
 induction n with
 | zero => exact Below.refl _ _
 | succ n ih => rw [← World.drew_drewN]; exact ih.drew
theorem below_alloc {w W : World} (h : Below w.heap.size w W) (o : Obj) : Below w.heap.size w (W.alloc o) := h.alloc h.size o
theorem grown_of_below {w w1 : World} (h : Below w.heap.size w w1) (row : Option Nat) : w.grownBy w1 row := ⟨h.os, h.tape, h.output, h.size, fun i hi _ => h.block i hi⟩
theorem pw_cell_below {w w1 : World} (h : Below w.heap.size w w1) {a : Addr} {v : Value} (hc : w.cell? a = some v) : w1.cell? a = some v := (h.cell (World.block_lt_of_cell? w a hc)).trans hc
theorem add_plain (g j : Nat) : (⟨g, 0, none⟩ : Addr).add j = ⟨g, j, none⟩ := by unfold Addr.add; split <;> simp_all
def ReadsInt (w : World) (k : IntKind) (A : Option Addr) (n : Nat) (xs : List Int) : Prop :=
 xs.length = n ∧ n ≤ 9223372036854775807 ∧ (0 < n → ∃ ad, A = some ad ∧ ∀ j, j < n → w.cell? (ad.add j) = some (.int k (xs.getD j 0)))
theorem ReadsInt.at_ {w : World} {k : IntKind} {A : Option Addr} {n : Nat} {xs : List Int} (h : ReadsInt w k A n xs) (i : Int) (h0 : 0 ≤ i) (h1 : i < n) : ∃ ad, A = some ad ∧ w.cell? (ad.add i.toNat) = some (.int k (rd xs i)) := by
 obtain ⟨ad, e, hc⟩ := h.2.2 (by omega)
 exact ⟨ad, e, hc _ (by omega)⟩
theorem ReadsInt.below {w w1 : World} {k : IntKind} {A : Option Addr} {n : Nat} {xs : List Int} (h : ReadsInt w k A n xs) (hb : Below w.heap.size w w1) : ReadsInt w1 k A n xs :=
 ⟨h.1, h.2.1, fun hn => by
  obtain ⟨ad, e, hc⟩ := h.2.2 hn
  exact ⟨ad, e, fun j hj => pw_cell_below hb (hc j hj)⟩⟩
theorem own_base {w : World} {base : Nat} {e : TypeId} {size n : Nat} {v : Value} {xs : List Value} (h : w.ownsRow base e size v n xs) (k : Nat) (hk : v.ownBlock = some k) : base ≤ k := by
 rcases h.2 with ⟨rfl, _⟩ | ⟨g, cap, cur, rfl, hb, _⟩
 ·simp [Value.ownBlock] at hk
 ·have : g = k := by simpa [Value.ownBlock] using hk
  omega
theorem own_lt {w : World} {base : Nat} {e : TypeId} {size n : Nat} {v : Value} {xs : List Value} (h : w.ownsRow base e size v n xs) (k : Nat) (hk : v.ownBlock = some k) : k < w.heap.size := by
 rcases h.2 with ⟨rfl, _⟩ | ⟨g, cap, cur, rfl, hb, hh, _⟩
 ·simp [Value.ownBlock] at hk
 ·have : g = k := by simpa [Value.ownBlock] using hk
  subst this
  exact (Array.getElem?_eq_some_iff.1 hh).1
theorem pw_own_below {w w1 : World} {base : Nat} {e : TypeId} {size n : Nat} {v : Value} {xs : List Value} (h : w.ownsRow base e size v n xs) (hb : Below w.heap.size w w1) : w1.ownsRow base e size v n xs :=
 h.kept (grown_of_below hb none) (by cases v.ownBlock <;> simp)
def bytesOf (s : ByteArray) : List Int := s.data.toList.map fun b => (b.toNat : Int)
theorem more_rounds {α : Type} {g : Nat → Option α} (h : ∀ k, LeO (g k) (g (k + 1))) (k : Nat) : ∀ j, LeO (g k) (g (k + j))
 | 0 => LeO.refl _
 | j + 1 => (more_rounds h k j).trans (h (k + j))
theorem at_rounds {α : Type} {g : Nat → Option α} (h : ∀ k, LeO (g k) (g (k + 1))) {k k' : Nat} (hk : k ≤ k') {r : α} (hr : g k = some r) : g k' = some r := by
 have := more_rounds h k (k' - k) r hr
 rwa [Nat.add_sub_cancel' hk] at this
def Reps {α : Type} (R : α → List Value → Prop) (size : Nat) (ps : List α) (cs : List Value) : Prop :=
 cs.length = ps.length * size ∧ ∀ j p, ps[j]? = some p → R p ((cs.drop (j * size)).take size)
theorem Reps.none {α : Type} (R : α → List Value → Prop) (size : Nat) : Reps R size [] [] := ⟨by simp, fun j p h => by simp at h⟩
theorem Reps.imp_ {α : Type} {R R' : α → List Value → Prop} {size : Nat} {ps : List α} {cs : List Value} (h : Reps R size ps cs) (hR : ∀ p c, R p c → R' p c) : Reps R' size ps cs := ⟨h.1, fun j p hj => hR _ _ (h.2 j p hj)⟩
def ReadsRow {α : Type} (R : α → List Value → Prop) (size : Nat) (w : World) (A : Option Addr) (n : Nat) (ps : List α) : Prop :=
 ps.length = n ∧ n ≤ 9223372036854775807 ∧ (0 < n → ∃ ad, A = some ad ∧ ∀ j p, ps[j]? = some p → ∃ c, c.length = size ∧ R p c ∧ ∀ i u, c[i]? = some u → w.cell? (ad.add (j * size + i)) = some u)
theorem ReadsRow.get_ {α : Type} {R : α → List Value → Prop} {size : Nat} {w : World} {A : Option Addr} {n : Nat} {ps : List α} (h : ReadsRow R size w A n ps) (d : α) (i : Int) (h0 : 0 ≤ i) (h1 : i < n) :
  ∃ ad c, A = some ad ∧ c.length = size ∧ R (ps.getD i.toNat d) c ∧ ∀ j u, c[j]? = some u → w.cell? (ad.add (i.toNat * size + j)) = some u := by
 obtain ⟨ad, e, hc⟩ := h.2.2 (by omega)
 have hl : i.toNat < ps.length := by have := h.1; omega
 obtain ⟨c, hs, hr, hcell⟩ := hc i.toNat _ (List.getElem?_eq_getElem hl)
 refine ⟨ad, c, e, hs, ?_, hcell⟩
 rw [List.getD_eq_getElem?_getD, List.getElem?_eq_getElem hl]
 exact hr
theorem ReadsRow.imp_ {α : Type} {R R' : α → List Value → Prop} {size : Nat} {w w1 : World} {A : Option Addr} {n : Nat} {ps : List α} (h : ReadsRow R size w A n ps) (hb : Below w.heap.size w w1) (hR : ∀ p c, R p c → R' p c) : ReadsRow R' size w1 A n ps :=
 ⟨h.1, h.2.1, fun hn => by
  obtain ⟨ad, e, hc⟩ := h.2.2 hn
  refine ⟨ad, e, fun j p hj => ?_⟩
  obtain ⟨c, hs, hr, hcell⟩ := hc j p hj
  exact ⟨c, hs, hR _ _ hr, fun i u hu => pw_cell_below hb (hcell i u hu)⟩⟩
theorem own_reads_row {α : Type} {R : α → List Value → Prop} {w : World} {base n size : Nat} {e : TypeId} {v : Value} {ps : List α} {cs : List Value} (h : w.ownsRow base e size v n cs) (hR : Reps R size ps cs) (hn : ps.length = n) :
  ∃ A c, v = .slice A n c ∧ ReadsRow R size w A n ps := by
 rcases Nat.eq_zero_or_pos n with h0 | h0
 ·rcases h.2 with ⟨rfl, rfl⟩ | ⟨g, cap, cur, rfl, _⟩
  ·exact ⟨none, 0, rfl, hn, by omega, fun hp => absurd hp (by omega)⟩
  ·exact ⟨_, cap, rfl, hn, by omega, fun hp => absurd hp (by omega)⟩
 ·obtain ⟨g, cap, rfl, _, _⟩ := h.form h0
  have hm : n ≤ 9223372036854775807 := by
   rcases h.2 with ⟨_, h1⟩ | ⟨g', cap', cur, he, _, _, h1, h2, _⟩
   ·omega
   ·simp only [maxLen] at h2
    omega
  refine ⟨_, cap, rfl, hn, hm, fun _ => ⟨_, rfl, fun j p hj => ⟨(cs.drop (j * size)).take size, ?_, hR.2 j p hj, fun i u hu => ?_⟩⟩⟩
  ·have hjl := (List.getElem?_eq_some_iff.1 hj).1
   have h1 : j * size + size ≤ cs.length := by rw [hR.1, ← Nat.succ_mul]; exact Nat.mul_le_mul_right _ hjl
   rw [List.length_take, List.length_drop]
   omega
  ·refine h.cells (g := g) rfl _ u ?_
   rw [List.getElem?_take] at hu
   split at hu
   ·rw [List.getElem?_drop] at hu
    exact hu
   ·cases hu
theorem own_ne {w : World} {base : Nat} {e t : TypeId} {size n g : Nat} {v : Value} {xs : List Value} {cs : Array Value} (h : w.ownsRow base e size v n xs) (hg : w.heap[g]? = some (.cells cs t (0, 0))) (hne : e ≠ t) : some g ≠ v.ownBlock := by
 rcases h.2 with ⟨rfl, _⟩ | ⟨g', cap, cur, rfl, _, hh, _⟩
 ·simp [Value.ownBlock]
 ·intro he
  have : g = g' := by simpa [Value.ownBlock] using he
  subst this
  rw [hg] at hh
  injection hh with hh
  injection hh with _ ht
  exact hne ht.symm
theorem own_setCell {w : World} {base : Nat} {e : TypeId} {size n : Nat} {v : Value} {xs : List Value} (h : w.ownsRow base e size v n xs) {p : Addr} (hne : some p.block ≠ v.ownBlock) (u : Value) : (w.setCell p u).ownsRow base e size v n xs := by
 obtain ⟨h1, h2⟩ := h
 refine ⟨h1, ?_⟩
 rcases h2 with h2 | ⟨g, cap, cur, rfl, hg, hh, r⟩
 ·exact .inl h2
 ·exact .inr ⟨g, cap, cur, rfl, hg, by rw [Below.heap_setCell _ _ _ _ (fun e => hne (by rw [e]; rfl))]; exact hh, r⟩
theorem blk_set {w : World} {g : Nat} {t : TypeId} {cs : Array Value} (h : w.heap[g]? = some (.cells cs t (0, 0))) (i : Nat) (u : Value) : (w.setCell ⟨g, i, none⟩ u).heap[g]? = some (.cells (cs.setIfInBounds i u) t (0, 0)) := by
 simp [World.setCell, Array.getElem?_modify, h]
theorem blk_far {w : World} {g : Nat} {t : TypeId} {cs : Array Value} (h : w.heap[g]? = some (.cells cs t (0, 0))) {p : Addr} (hp : g ≠ p.block) (u : Value) : (w.setCell p u).heap[g]? = some (.cells cs t (0, 0)) := (Below.heap_setCell w p u g hp).trans h
theorem blk_lt {w : World} {g : Nat} {o : Obj} (h : w.heap[g]? = some o) : g < w.heap.size := (Array.getElem?_eq_some_iff.1 h).1
theorem blk_cell {w : World} {g : Nat} {t : TypeId} {cs : Array Value} (h : w.heap[g]? = some (.cells cs t (0, 0))) (i : Nat) : w.cell? ⟨g, i, none⟩ = cs[i]? := cell_of_row w g i cs t (0, 0) h
theorem blk_grown {w w1 : World} {g : Nat} {o : Obj} {row : Option Nat} (h : w.heap[g]? = some o) (hg : w.grownBy w1 row) (hne : some g ≠ row) : w1.heap[g]? = some o := (hg.block g (blk_lt h) hne).trans h
def KeepBut (w w' : World) (g : Nat) (row : Option Nat) : Prop := w.heap.size ≤ w'.heap.size ∧ ∀ i, i < w.heap.size → i ≠ g → some i ≠ row → w'.heap[i]? = w.heap[i]?
theorem KeepBut.refl (w : World) (g : Nat) (row : Option Nat) : KeepBut w w g row := ⟨Nat.le_refl _, fun _ _ _ _ => rfl⟩
theorem KeepBut.of_grown {w w1 : World} {row : Option Nat} (h : w.grownBy w1 row) (g : Nat) : KeepBut w w1 g row := ⟨h.size, fun i hi _ hr => h.block i hi hr⟩
theorem KeepBut.of_below {w w1 : World} (h : Below w.heap.size w w1) (g : Nat) (row : Option Nat) : KeepBut w w1 g row := ⟨h.size, fun i hi _ _ => h.block i hi⟩
theorem KeepBut.set_ {w w1 : World} {g : Nat} {row : Option Nat} (h : KeepBut w w1 g row) (j : Nat) (u : Value) : KeepBut w (w1.setCell ⟨g, j, none⟩ u) g row :=
 ⟨by simpa [World.setCell] using h.1, fun i hi hg hr => (Below.heap_setCell w1 ⟨g, j, none⟩ u i hg).trans (h.2 i hi hg hr)⟩
theorem KeepBut.trans {w w1 w2 : World} {g : Nat} {row row1 : Option Nat} (h : KeepBut w w1 g row) (k : KeepBut w1 w2 g row1) (hr : row1 = row ∨ ∃ b, row1 = some b ∧ w.heap.size ≤ b) : KeepBut w w2 g row :=
 ⟨Nat.le_trans h.1 k.1, fun i hi hg hn => by
  refine (k.2 i (Nat.lt_of_lt_of_le hi h.1) hg ?_).trans (h.2 i hi hg hn)
  rcases hr with rfl | ⟨b, rfl, hb⟩
  ·exact hn
  ·intro e
   injection e with e
   omega⟩
theorem KeepBut.blk {w w1 : World} {g g' : Nat} {row : Option Nat} {o : Obj} (h : KeepBut w w1 g row) (hb : w.heap[g']? = some o) (hg : g' ≠ g) (hr : some g' ≠ row) : w1.heap[g']? = some o := (h.2 g' (blk_lt hb) hg hr).trans hb
theorem KeepBut.own {w w1 : World} {g : Nat} {row : Option Nat} {base : Nat} {e : TypeId} {size n : Nat} {v : Value} {xs : List Value} (h : KeepBut w w1 g row) (ho : w.ownsRow base e size v n xs) (hg : v.ownBlock ≠ some g) (hr : v.ownBlock = none ∨ v.ownBlock ≠ row) : w1.ownsRow base e size v n xs := by
 obtain ⟨h1, h2⟩ := ho
 refine ⟨h1, ?_⟩
 rcases h2 with h2 | ⟨b, cap, cur, rfl, hb, hh, r⟩
 ·exact .inl h2
 ·refine .inr ⟨b, cap, cur, rfl, hb, h.blk hh ?_ ?_, r⟩
  ·intro e
   exact hg (by rw [← e]; rfl)
  ·rcases hr with hr | hr
   ·simp [Value.ownBlock] at hr
   ·exact hr
def Ev {α : Type} (g : Nat → Option α) (r : α) : Prop := ∃ K, ∀ k, K ≤ k → g k = some r
theorem Ev.of {α : Type} {g : Nat → Option α} {r : α} (hg : ∀ k, LeO (g k) (g (k + 1))) {k : Nat} (h : g k = some r) : Ev g r := ⟨k, fun _ hk => at_rounds hg hk h⟩
theorem Ev.now {α : Type} (r : α) : Ev (fun _ => some r) r := ⟨0, fun _ _ => rfl⟩
theorem Ev.rounds {α : Type} {g : Nat → Option α} {r : α} (h : Ev g r) : ∃ k, g k = some r := by
 obtain ⟨K, h⟩ := h
 exact ⟨K, h K (Nat.le_refl _)⟩
theorem Ev.bind {α β : Type} {g : Nat → Option α} {f : Nat → α → Option β} {a : α} {r : β} (h : Ev g a) (k : Ev (fun n => f n a) r) : Ev (fun n => (g n).bind (f n)) r := by
 obtain ⟨K, h⟩ := h
 obtain ⟨K', k⟩ := k
 refine ⟨max K K', fun n hn => ?_⟩
 have h1 := h n (by omega)
 have h2 := k n (by omega)
 simp only [h1, Option.bind_some]
 exact h2
theorem Ev.step {α : Type} {g f : Nat → Option α} {r : α} (h : ∀ k, g (k + 1) = f k) (k : Ev f r) : Ev g r := by
 obtain ⟨K, k⟩ := k
 refine ⟨K + 1, fun n hn => ?_⟩
 obtain ⟨m, rfl⟩ : ∃ m, n = m + 1 := ⟨n - 1, by omega⟩
 rw [h]
 exact k m (by omega)
theorem Ev.congr {α : Type} {g f : Nat → Option α} {r : α} (h : ∀ k, g k = f k) (k : Ev f r) : Ev g r := by
 obtain ⟨K, k⟩ := k
 exact ⟨K, fun n hn => (h n).trans (k n hn)⟩
theorem own_weaken {w : World} {base base' : Nat} {e : TypeId} {size n : Nat} {v : Value} {xs : List Value} (h : w.ownsRow base e size v n xs) (hb : base' ≤ base) : w.ownsRow base' e size v n xs := by
 obtain ⟨h1, h2⟩ := h
 refine ⟨h1, ?_⟩
 rcases h2 with h2 | ⟨g, cap, cur, rfl, hg, r⟩
 ·exact .inl h2
 ·exact .inr ⟨g, cap, cur, rfl, Nat.le_trans hb hg, r⟩
section
variable {α : Type} {enc : α → Value} {d : α}
def encs (enc : α → Value) (xs : List α) : List Value := xs.map enc
theorem encs_length (xs : List α) : (encs enc xs).length = xs.length := by simp [encs]
theorem encs_get (xs : List α) (j : Nat) (h : j < xs.length) : (encs enc xs)[j]? = some (enc (xs.getD j d)) := by
 simp [encs, List.getElem?_eq_getElem h, List.getD_eq_getElem?_getD]
def ReadsOf (enc : α → Value) (d : α) (w : World) (A : Option Addr) (n : Nat) (xs : List α) : Prop :=
 xs.length = n ∧ n ≤ 9223372036854775807 ∧ (0 < n → ∃ ad, A = some ad ∧ ∀ j, j < n → w.cell? (ad.add j) = some (enc (xs.getD j d)))
theorem ReadsOf.at_ {w : World} {A : Option Addr} {n : Nat} {xs : List α} (h : ReadsOf enc d w A n xs) (i : Int) (h0 : 0 ≤ i) (h1 : i < n) : ∃ ad, A = some ad ∧ w.cell? (ad.add i.toNat) = some (enc (rdOf d xs i)) := by
 obtain ⟨ad, e, hc⟩ := h.2.2 (by omega)
 exact ⟨ad, e, hc _ (by omega)⟩
theorem ReadsOf.below {w w1 : World} {A : Option Addr} {n : Nat} {xs : List α} (h : ReadsOf enc d w A n xs) (hb : Below w.heap.size w w1) : ReadsOf enc d w1 A n xs :=
 ⟨h.1, h.2.1, fun hn => by
  obtain ⟨ad, e, hc⟩ := h.2.2 hn
  exact ⟨ad, e, fun j hj => pw_cell_below hb (hc j hj)⟩⟩
theorem own_at_of {W : World} {base g n cap : Nat} {e : TypeId} {xs : List α} (h : W.ownsRow base e 1 (.slice (some ⟨g, 0, none⟩) n cap) n (encs enc xs)) (i : Int) (h0 : 0 ≤ i) (h1 : i < n) :
  W.cell? ⟨g, i.toNat, none⟩ = some (enc (rdOf d xs i)) ∧ W.frozen? ⟨g, i.toNat, none⟩ = false := by
 have hl : xs.length = n := by have := h.1; simp [encs] at this; exact this
 constructor
 ·have hc := h.cells (g := g) rfl i.toNat _ (encs_get (d := d) xs i.toNat (by omega))
  rwa [add_plain] at hc
 ·rcases h.2 with ⟨h', _⟩ | ⟨g', cap', cur, h', _, hh, _⟩
  ·cases h'
  ·have : g = g' := by injection h' with h'; injection h' with h'; injection h' with h'
   subst this
   simp [World.frozen?, hh]
theorem own_store_of {W : World} {base g n cap : Nat} {e : TypeId} {xs : List α} (h : W.ownsRow base e 1 (.slice (some ⟨g, 0, none⟩) n cap) n (encs enc xs)) (i : Int) (x : α) :
  (W.setCell ⟨g, i.toNat, none⟩ (enc x)).ownsRow base e 1 (.slice (some ⟨g, 0, none⟩) n cap) n (encs enc (xs.set i.toNat x)) ∧ W.grownBy (W.setCell ⟨g, i.toNat, none⟩ (enc x)) (some g) := by
 have hs := h.stored i.toNat (enc x)
 have he : (encs enc xs).set i.toNat (enc x) = encs enc (xs.set i.toNat x) := by simp [encs, List.map_set]
 rwa [he] at hs
end
theorem blk_alloc {w : World} {g : Nat} {o : Obj} (h : w.heap[g]? = some o) (o' : Obj) : (w.alloc o').heap[g]? = some o := (Below.heap_alloc w o' g (blk_lt h)).trans h
theorem blk_new (w : World) (o : Obj) : (w.alloc o).heap[w.heap.size]? = some o := heap_alloc_new w o
theorem own_le {w : World} {base n m c size : Nat} {e : TypeId} {A : Option Addr} {xs : List Value} (h : w.ownsRow base e size (.slice A m c) n xs) : m ≤ c := by
 rcases h.2 with ⟨he, _⟩ | ⟨g, cap, cur, he, _, _, hnc, _⟩
 ·injection he with _ h2 h3
  omega
 ·injection he with _ h2 h3
  omega
def OwnRow {α : Type} (R : α → List Value → Prop) (e : TypeId) (size : Nat) (w : World) (base : Nat) (v : Value) (ps : List α) : Prop :=
 ∃ inner, w.ownsRow base e size v ps.length inner ∧ Reps R size ps inner
section
variable {α : Type} {R R' : α → List Value → Prop} {e : TypeId} {size : Nat} {w w1 : World} {base : Nat} {v : Value} {ps : List α}
theorem OwnRow.imp_ (h : OwnRow R e size w base v ps) (hR : ∀ p c, R p c → R' p c) : OwnRow R' e size w base v ps := by
 obtain ⟨inner, ho, hr⟩ := h
 exact ⟨inner, ho, hr.imp_ hR⟩
theorem OwnRow.below (h : OwnRow R e size w base v ps) (hb : Below w.heap.size w w1) : OwnRow R e size w1 base v ps := by
 obtain ⟨inner, ho, hr⟩ := h
 exact ⟨inner, pw_own_below ho hb, hr⟩
theorem OwnRow.set_ (h : OwnRow R e size w base v ps) {g : Nat} {t : TypeId} {cells : Array Value} (hb : w.heap[g]? = some (.cells cells t (0, 0))) (ht : e ≠ t) (j : Nat) (u : Value) : OwnRow R e size (w.setCell ⟨g, j, none⟩ u) base v ps := by
 obtain ⟨inner, ho, hr⟩ := h
 exact ⟨inner, own_setCell ho (own_ne ho hb ht) u, hr⟩
theorem OwnRow.keep (h : OwnRow R e size w base v ps) {g : Nat} {t : TypeId} {cells : Array Value} (hb : w.heap[g]? = some (.cells cells t (0, 0))) (ht : e ≠ t) (hk : KeepBut w w1 g none) : OwnRow R e size w1 base v ps := by
 obtain ⟨inner, ho, hr⟩ := h
 exact ⟨inner, hk.own ho (Ne.symm (own_ne ho hb ht)) (by cases v.ownBlock <;> simp), hr⟩
theorem OwnRow.reads (h : OwnRow R e size w base v ps) : ∃ A c, v = .slice A ps.length c ∧ ps.length ≤ c ∧ ReadsRow R size w A ps.length ps := by
 obtain ⟨inner, ho, hr⟩ := h
 obtain ⟨A, c, rfl, hrow⟩ := own_reads_row ho hr rfl
 exact ⟨A, c, rfl, own_le ho, hrow⟩
theorem OwnRow.ne_block (h : OwnRow R e size w base v ps) {g : Nat} {t : TypeId} {cells : Array Value} (hb : w.heap[g]? = some (.cells cells t (0, 0))) (ht : e ≠ t) : some g ≠ v.ownBlock := by
 obtain ⟨inner, ho, hr⟩ := h
 exact own_ne ho hb ht
end
structure Kd (α : Type) where
 sz : Nat
 E : List Nat
 K : World → α → List Value → Prop
 M : World → Nat → (Nat → Prop) → α → List Value → Prop
 K_len : ∀ {w x cs}, K w x cs → cs.length = sz
 K_one : ∀ {w x cs}, K w x cs → ∀ u ∈ cs, u.oneCell' = true
 K_below : ∀ {w w1 : World} {x cs}, Below w.heap.size w w1 → K w x cs → K w1 x cs
 K_of_M : ∀ {w base ok x cs}, M w base ok x cs → K w x cs
 M_mono : ∀ {w base ok ok' x cs}, (∀ k, ok k → ok' k) → M w base ok x cs → M w base ok' x cs
 M_bound : ∀ {w : World} {base ok x cs}, M w base ok x cs → M w base (fun k => ok k ∧ base ≤ k ∧ k < w.heap.size ∧ ∃ q, q ∈ E ∧ ∃ cells, w.heap[k]? = some (.cells cells q (0, 0))) x cs
 M_move : ∀ {w w1 : World} {base ok x cs}, (∀ k, ok k → w1.heap[k]? = w.heap[k]?) → M w base ok x cs → M w1 base ok x cs
 M_lower : ∀ {w base base' ok x cs}, base' ≤ base → M w base ok x cs → M w base' ok x cs
 pl : Prop := False
theorem own_move {w w1 : World} {base : Nat} {e : TypeId} {size n : Nat} {v : Value} {xs : List Value} (h : w.ownsRow base e size v n xs) (hm : ∀ k, v.ownBlock = some k → w1.heap[k]? = w.heap[k]?) : w1.ownsRow base e size v n xs := by
 obtain ⟨h1, h2⟩ := h
 refine ⟨h1, ?_⟩
 rcases h2 with h2 | ⟨g, cap, cur, rfl, hg, hh, r⟩
 ·exact .inl h2
 ·exact .inr ⟨g, cap, cur, rfl, hg, (hm g (by simp [Value.ownBlock])).trans hh, r⟩
theorem own_typed {w : World} {base : Nat} {e : TypeId} {size n : Nat} {v : Value} {xs : List Value} (h : w.ownsRow base e size v n xs) (k : Nat) (hk : v.ownBlock = some k) : ∃ cells, w.heap[k]? = some (.cells cells e (0, 0)) := by
 rcases h.2 with ⟨rfl, _⟩ | ⟨g, cap, cur, rfl, hg, hh, r⟩
 ·simp [Value.ownBlock] at hk
 ·have : g = k := by simpa [Value.ownBlock] using hk
  subst this
  exact ⟨cur, hh⟩
namespace Kd
def Ty {α : Type} (d : Kd α) (w : World) (A : Option Addr) (n : Nat) : Prop := d.pl → 0 < n → ∀ ad, A = some ad → ∃ cells t, w.heap[ad.block]? = some (.cells cells t (0, 0))
def C {α : Type} (d : Kd α) (w : World) (A : Option Addr) (n : Nat) (xs : List α) : Prop := ReadsRow (d.K w) d.sz w A n xs ∧ d.Ty w A n
theorem Ty.move {α : Type} {d : Kd α} {w w1 : World} {A : Option Addr} {n : Nat} (h : d.Ty w A n) (hm : ∀ ad, A = some ad → 0 < n → ad.block < w.heap.size → w1.heap[ad.block]? = w.heap[ad.block]?) : d.Ty w1 A n := fun hp hn ad ha => by
 obtain ⟨cells, t, hb⟩ := h hp hn ad ha
 exact ⟨cells, t, (hm ad ha hn (Array.getElem?_eq_some_iff.1 hb).1).trans hb⟩
theorem Ty.zero {α : Type} (d : Kd α) (w : World) (A : Option Addr) : d.Ty w A 0 := fun _ h => absurd h (Nat.lt_irrefl 0)
theorem Ty.of_own {α : Type} {d : Kd α} {w : World} {base : Nat} {e : TypeId} {size m n c : Nat} {A : Option Addr} {xs : List Value} (h : w.ownsRow base e size (.slice A m c) n xs) (k : Nat) : d.Ty w A k := fun _ _ ad ha => by
 subst ha
 obtain ⟨cells, hc⟩ := own_typed h ad.block rfl
 exact ⟨cells, e, hc⟩
def R {α : Type} (d : Kd α) (e : Nat) (w : World) (base : Nat) (ok : Nat → Prop) (v : Value) (xs : List α) : Prop :=
 (∀ k, v.ownBlock = some k → ok k) ∧ OwnRow (d.M w base (fun k => ok k ∧ some k ≠ v.ownBlock)) e d.sz w base v xs
section
variable {α : Type} {d : Kd α} {e : Nat} {w w1 : World} {base : Nat} {ok ok' : Nat → Prop} {v : Value} {xs : List α}
theorem C_below {A : Option Addr} {n : Nat} (h : d.C w A n xs) (hb : Below w.heap.size w w1) : d.C w1 A n xs := ⟨ReadsRow.imp_ h.1 hb (fun _ _ hp => d.K_below hb hp), h.2.move (fun _ _ _ hk => hb.block _ hk)⟩
theorem R_mono (h : d.R e w base ok v xs) (hok : ∀ k, ok k → ok' k) : d.R e w base ok' v xs := ⟨fun k hk => hok k (h.1 k hk), h.2.imp_ (fun _ _ hp => d.M_mono (fun k hk => ⟨hok k hk.1, hk.2⟩) hp)⟩
theorem R_bound (h : d.R e w base ok v xs) : d.R e w base (fun k => ok k ∧ base ≤ k ∧ k < w.heap.size ∧ ∃ q, q ∈ e :: d.E ∧ ∃ cells, w.heap[k]? = some (.cells cells q (0, 0))) v xs := by
 obtain ⟨h0, inner, ho, hr⟩ := h
 refine ⟨fun k hk => ?_, inner, ho, hr.imp_ (fun _ _ hp => d.M_mono (fun k hk => ?_) (d.M_bound hp))⟩
 ·obtain ⟨cells, hc⟩ := own_typed ho k hk
  exact ⟨h0 k hk, own_base ho k hk, own_lt ho k hk, e, List.mem_cons_self, cells, hc⟩
 ·obtain ⟨⟨h1, h2⟩, h3, h4, q, hq, hc⟩ := hk
  exact ⟨⟨h1, h3, h4, q, List.mem_cons_of_mem _ hq, hc⟩, h2⟩
theorem R_move (h : d.R e w base ok v xs) (hm : ∀ k, ok k → w1.heap[k]? = w.heap[k]?) : d.R e w1 base ok v xs := by
 obtain ⟨h0, inner, ho, hr⟩ := h
 exact ⟨h0, inner, own_move ho (fun k hk => hm k (h0 k hk)), hr.imp_ (fun _ _ hp => d.M_move (fun k hk => hm k hk.1) hp)⟩
theorem R_lower {base' : Nat} (h : d.R e w base ok v xs) (hb : base' ≤ base) : d.R e w base' ok v xs := by
 obtain ⟨h0, inner, ho, hr⟩ := h
 exact ⟨h0, inner, own_weaken ho hb, hr.imp_ (fun _ _ hp => d.M_lower hb hp)⟩
theorem R_step (h : d.R e w base ok v xs) (hm : ∀ k, ok k → k < w.heap.size → w1.heap[k]? = w.heap[k]?) : d.R e w1 base ok v xs :=
 R_mono (R_move (R_bound h) (fun k hk => hm k hk.1 hk.2.2.1)) (fun _ hk => hk.1)
theorem M_step {x : α} {cs : List Value} (h : d.M w base ok x cs) (hm : ∀ k, ok k → k < w.heap.size → w1.heap[k]? = w.heap[k]?) : d.M w1 base ok x cs :=
 d.M_mono (fun _ hk => hk.1) (d.M_move (fun k hk => hm k hk.1 hk.2.2.1) (d.M_bound h))
theorem M_below {x : α} {cs : List Value} (h : d.M w base ok x cs) (hb : Below w.heap.size w w1) : d.M w1 base ok x cs := M_step h (fun k _ hk => hb.block k hk)
theorem R_reads (h : d.R e w base ok v xs) : ∃ A c, v = .slice A xs.length c ∧ xs.length ≤ c ∧ d.C w A xs.length xs := by
 obtain ⟨A, c, he, hl, hr⟩ := OwnRow.reads h.2
 obtain ⟨_, inner, ho, _⟩ := h
 subst he
 exact ⟨A, c, rfl, hl, hr.imp_ (Below.refl _ _) (fun _ _ hp => d.K_of_M hp), Ty.of_own ho _⟩
theorem R_slice (h : d.R e w base ok v xs) : ∃ A c, v = .slice A xs.length c := by
 obtain ⟨A, c, he, _⟩ := R_reads h
 exact ⟨A, c, he⟩
theorem R_own (h : d.R e w base ok v xs) : ∃ inner, w.ownsRow base e d.sz v xs.length inner := by
 obtain ⟨_, inner, ho, _⟩ := h
 exact ⟨inner, ho⟩
theorem R_ne (h : d.R e w base ok v xs) {g t : Nat} {cells : Array Value} (hb : w.heap[g]? = some (.cells cells t (0, 0))) (ht : e ≠ t) : some g ≠ v.ownBlock := OwnRow.ne_block h.2 hb ht
end
def scalar {α : Type} (enc : α → Value) (h1 : ∀ x, (enc x).oneCell' = true) : Kd α where
 sz := 1
 E := []
 K := fun _ x cs => cs = [enc x]
 M := fun _ _ _ x cs => cs = [enc x]
 K_len := fun h => by rw [h]; rfl
 K_one := fun h u hu => by
  rw [h] at hu
  rw [List.mem_singleton.1 hu]
  exact h1 _
 K_below := fun _ h => h
 K_of_M := fun h => h
 M_mono := fun _ h => h
 M_bound := fun h => h
 M_move := fun _ h => h
 M_lower := fun _ h => h
def int (k : IntKind) : Kd Int := scalar (Value.int k) (fun _ => rfl)
def bool : Kd Bool := scalar Value.bool (fun _ => rfl)
def string : Kd ByteArray := scalar Value.string (fun _ => rfl)
def slice {α : Type} (e : Nat) (d : Kd α) : Kd (List α) where
 sz := 1
 E := e :: d.E
 K := fun w xs cs => ∃ A c, cs = [.slice A xs.length c] ∧ xs.length ≤ c ∧ d.C w A xs.length xs
 M := fun w base ok xs cs => ∃ v, cs = [v] ∧ d.R e w base ok v xs
 K_len := by
  rintro w x cs ⟨A, c, rfl, _⟩
  rfl
 K_one := by
  rintro w x cs ⟨A, c, rfl, _⟩ u hu
  rw [List.mem_singleton.1 hu]
  rfl
 K_below := by
  rintro w w1 x cs hb ⟨A, c, rfl, hl, hr⟩
  exact ⟨A, c, rfl, hl, C_below hr hb⟩
 K_of_M := by
  rintro w base ok x cs ⟨v, rfl, h⟩
  obtain ⟨A, c, rfl, hl, hr⟩ := R_reads h
  exact ⟨A, c, rfl, hl, hr⟩
 M_mono := by
  rintro w base ok ok' x cs hok ⟨v, rfl, h⟩
  exact ⟨v, rfl, R_mono h hok⟩
 M_bound := by
  rintro w base ok x cs ⟨v, rfl, h⟩
  exact ⟨v, rfl, R_bound h⟩
 M_move := by
  rintro w w1 base ok x cs hm ⟨v, rfl, h⟩
  exact ⟨v, rfl, R_move h hm⟩
 M_lower := by
  rintro w base base' ok x cs hb ⟨v, rfl, h⟩
  exact ⟨v, rfl, R_lower h hb⟩
def pair {α β : Type} (a : Kd α) (b : Kd β) : Kd (α × β) where
 sz := a.sz + b.sz
 E := a.E ++ b.E
 K := fun w x cs => ∃ c0 c1, cs = c0 ++ c1 ∧ a.K w x.1 c0 ∧ b.K w x.2 c1
 M := fun w base ok x cs => ∃ c0 c1, cs = c0 ++ c1 ∧ a.M w base ok x.1 c0 ∧ b.M w base ok x.2 c1
 K_len := by
  rintro w x cs ⟨c0, c1, rfl, h0, h1⟩
  rw [List.length_append, a.K_len h0, b.K_len h1]
 K_one := by
  rintro w x cs ⟨c0, c1, rfl, h0, h1⟩ u hu
  rcases List.mem_append.1 hu with hu | hu
  ·exact a.K_one h0 u hu
  ·exact b.K_one h1 u hu
 K_below := by
  rintro w w1 x cs hb ⟨c0, c1, rfl, h0, h1⟩
  exact ⟨c0, c1, rfl, a.K_below hb h0, b.K_below hb h1⟩
 K_of_M := by
  rintro w base ok x cs ⟨c0, c1, rfl, h0, h1⟩
  exact ⟨c0, c1, rfl, a.K_of_M h0, b.K_of_M h1⟩
 M_mono := by
  rintro w base ok ok' x cs hok ⟨c0, c1, rfl, h0, h1⟩
  exact ⟨c0, c1, rfl, a.M_mono hok h0, b.M_mono hok h1⟩
 M_bound := by
  rintro w base ok x cs ⟨c0, c1, rfl, h0, h1⟩
  refine ⟨c0, c1, rfl, a.M_mono ?_ (a.M_bound h0), b.M_mono ?_ (b.M_bound h1)⟩
  ·rintro k ⟨h2, h3, h4, q, hq, hc⟩
   exact ⟨h2, h3, h4, q, List.mem_append_left _ hq, hc⟩
  ·rintro k ⟨h2, h3, h4, q, hq, hc⟩
   exact ⟨h2, h3, h4, q, List.mem_append_right _ hq, hc⟩
 M_move := by
  rintro w w1 base ok x cs hm ⟨c0, c1, rfl, h0, h1⟩
  exact ⟨c0, c1, rfl, a.M_move hm h0, b.M_move hm h1⟩
 M_lower := by
  rintro w base base' ok x cs hb ⟨c0, c1, rfl, h0, h1⟩
  exact ⟨c0, c1, rfl, a.M_lower hb h0, b.M_lower hb h1⟩
def iso {α β : Type} (d : Kd α) (f : β → α) : Kd β where
 sz := d.sz
 E := d.E
 K := fun w x cs => d.K w (f x) cs
 M := fun w base ok x cs => d.M w base ok (f x) cs
 K_len := d.K_len
 K_one := d.K_one
 K_below := d.K_below
 K_of_M := d.K_of_M
 M_mono := d.M_mono
 M_bound := d.M_bound
 M_move := d.M_move
 M_lower := d.M_lower
def bot {α : Type} (sz : Nat) (E : List Nat) : Kd α where
 sz := sz
 E := E
 K := fun _ _ _ => False
 M := fun _ _ _ _ _ => False
 K_len := fun h => h.elim
 K_one := fun h => h.elim
 K_below := fun _ h => h
 K_of_M := fun h => h
 M_mono := fun _ h => h
 M_bound := fun h => h
 M_move := fun _ h => h
 M_lower := fun _ h => h
 pl := True
def upto {α : Type} (F : Kd α → Kd α) (sz : Nat) (E : List Nat) : Nat → Kd α
 | 0 => bot sz E
 | n + 1 => { F (upto F sz E n) with pl := True }
def fix {α : Type} (F : Kd α → Kd α) (sz : Nat) (E : List Nat) (hs : ∀ n, (upto F sz E n).sz = sz) (hE : ∀ n q, q ∈ (upto F sz E n).E → q ∈ E) : Kd α where
 sz := sz
 E := E
 K := fun w x cs => ∃ n, (upto F sz E n).K w x cs
 M := fun w base ok x cs => ∃ n, (upto F sz E n).M w base ok x cs
 K_len := by
  rintro w x cs ⟨n, h⟩
  rw [(upto F sz E n).K_len h, hs n]
 K_one := by
  rintro w x cs ⟨n, h⟩
  exact (upto F sz E n).K_one h
 K_below := by
  rintro w w1 x cs hb ⟨n, h⟩
  exact ⟨n, (upto F sz E n).K_below hb h⟩
 K_of_M := by
  rintro w base ok x cs ⟨n, h⟩
  exact ⟨n, (upto F sz E n).K_of_M h⟩
 M_mono := by
  rintro w base ok ok' x cs hok ⟨n, h⟩
  exact ⟨n, (upto F sz E n).M_mono hok h⟩
 M_bound := by
  rintro w base ok x cs ⟨n, h⟩
  refine ⟨n, (upto F sz E n).M_mono ?_ ((upto F sz E n).M_bound h)⟩
  rintro k ⟨h2, h3, h4, q, hq, hc⟩
  exact ⟨h2, h3, h4, q, hE n q hq, hc⟩
 M_move := by
  rintro w w1 base ok x cs hm ⟨n, h⟩
  exact ⟨n, (upto F sz E n).M_move hm h⟩
 M_lower := by
  rintro w base base' ok x cs hb ⟨n, h⟩
  exact ⟨n, (upto F sz E n).M_lower hb h⟩
 pl := True
theorem upto_pl {α : Type} {F : Kd α → Kd α} {sz : Nat} {E : List Nat} : ∀ n, (upto F sz E n).pl
 | 0 => trivial
 | _ + 1 => trivial
theorem C_get {α : Type} {d : Kd α} {w : World} {A : Option Addr} {n : Nat} {xs : List α} (h : d.C w A n xs) (z : α) (i : Int) (h0 : 0 ≤ i) (h1 : i < n) :
  ∃ ad c, A = some ad ∧ c.length = d.sz ∧ d.K w (xs.getD i.toNat z) c ∧ ∀ j u, c[j]? = some u → w.cell? (ad.add (i.toNat * d.sz + j)) = some u := ReadsRow.get_ h.1 z i h0 h1
theorem reps_scalar {α : Type} {enc : α → Value} (xs : List α) : Reps (fun (x : α) (cs : List Value) => cs = [enc x]) 1 xs (encs enc xs) := by
 refine ⟨by simp [encs], fun j p hj => ?_⟩
 obtain ⟨hl, hp⟩ := List.getElem?_eq_some_iff.1 hj
 have hl' : j < (encs enc xs).length := by rw [encs_length]; exact hl
 rw [Nat.mul_one, List.drop_eq_getElem_cons hl']
 simp [encs, hp]
theorem R_of_own {α : Type} {enc : α → Value} {h1 : ∀ x, (enc x).oneCell' = true} {e : Nat} {w : World} {base : Nat} {ok : Nat → Prop} {v : Value} {xs : List α} (ho : w.ownsRow base e 1 v xs.length (encs enc xs)) (hok : ∀ k, v.ownBlock = some k → ok k) : (scalar enc h1).R e w base ok v xs := ⟨hok, encs enc xs, ho, reps_scalar xs⟩
theorem own_of_R {α : Type} {enc : α → Value} {h1 : ∀ x, (enc x).oneCell' = true} {e : Nat} {w : World} {base : Nat} {ok : Nat → Prop} {v : Value} {xs : List α} (h : (scalar enc h1).R e w base ok v xs) : w.ownsRow base e 1 v xs.length (encs enc xs) := by
 obtain ⟨_, inner, ho, hr⟩ := h
 have : inner = encs enc xs := by
  apply List.ext_getElem?
  intro j
  rcases Nat.lt_or_ge j xs.length with hj | hj
  ·have h2 := hr.2 j _ (List.getElem?_eq_getElem hj)
   have hl : j < inner.length := by have := hr.1; simp [scalar] at this; omega
   have h3 : (inner.drop (j * 1)).take 1 = [enc xs[j]] := h2
   rw [Nat.mul_one, List.drop_eq_getElem_cons hl] at h3
   have h4 : inner[j] = enc xs[j] := by
    have h5 := congrArg List.head? h3
    rw [List.take_succ_cons] at h5
    exact Option.some.inj h5
   rw [List.getElem?_eq_getElem hl, h4]
   simp [encs, List.getElem?_eq_getElem hj]
  ·have h3 : inner.length = xs.length := by have := hr.1; simp [scalar] at this; omega
   rw [List.getElem?_eq_none (by omega), List.getElem?_eq_none (by rw [encs_length]; omega)]
 rw [← this]
 exact ho
theorem reads_of_C {α : Type} {enc : α → Value} {d : α} {h1 : ∀ x, (enc x).oneCell' = true} {w : World} {A : Option Addr} {n : Nat} {xs : List α} (h0 : (scalar enc h1).C w A n xs) : ReadsOf enc d w A n xs := by
 obtain ⟨h, _⟩ := h0
 refine ⟨h.1, h.2.1, fun hn => ?_⟩
 obtain ⟨ad, e, hc⟩ := h.2.2 hn
 refine ⟨ad, e, fun j hj => ?_⟩
 have hl : j < xs.length := by have := h.1; omega
 obtain ⟨c, _, hK, hcell⟩ := hc j _ (List.getElem?_eq_getElem hl)
 have hK' : c = [enc xs[j]] := hK
 subst hK'
 have := hcell 0 _ rfl
 simpa [scalar, List.getD_eq_getElem?_getD, List.getElem?_eq_getElem hl] using this
end Kd
namespace Kd
structure Mono {α β : Type} (F : Kd α → Kd β) : Prop where
 sz : ∀ d d' : Kd α, d.sz = d'.sz → (F d).sz = (F d').sz
 pl : ∀ d d' : Kd α, (d'.pl → d.pl) → (F d').pl → (F d).pl
 K : ∀ d d' : Kd α, d.sz = d'.sz → (d'.pl → d.pl) → (∀ w x cs, d.K w x cs → d'.K w x cs) → ∀ w x cs, (F d).K w x cs → (F d').K w x cs
 M : ∀ d d' : Kd α, d.sz = d'.sz → (∀ w base ok x cs, d.M w base ok x cs → d'.M w base ok x cs) → ∀ w base ok x cs, (F d).M w base ok x cs → (F d').M w base ok x cs
theorem mono_const {α β : Type} (k : Kd β) : Mono (fun _ : Kd α => k) := ⟨fun _ _ _ => rfl, fun _ _ _ h => h, fun _ _ _ _ _ _ _ _ h => h, fun _ _ _ _ _ _ _ _ _ h => h⟩
theorem mono_id {α : Type} : Mono (fun d : Kd α => d) := ⟨fun _ _ h => h, fun _ _ h => h, fun _ _ _ _ h => h, fun _ _ _ h => h⟩
theorem C_imp {α : Type} {d d' : Kd α} (hs : d.sz = d'.sz) (hpl : d'.pl → d.pl) (h : ∀ w x cs, d.K w x cs → d'.K w x cs) {w : World} {A : Option Addr} {n : Nat} {xs : List α} (hc : d.C w A n xs) : d'.C w A n xs := by
 unfold C at hc ⊢
 rw [← hs]
 exact ⟨hc.1.imp_ (Below.refl _ _) (fun _ _ hp => h _ _ _ hp), fun hp => hc.2 (hpl hp)⟩
theorem R_imp {α : Type} {d d' : Kd α} (hs : d.sz = d'.sz) (h : ∀ w base ok x cs, d.M w base ok x cs → d'.M w base ok x cs) {e : Nat} {w : World} {base : Nat} {ok : Nat → Prop} {v : Value} {xs : List α} (hr : d.R e w base ok v xs) : d'.R e w base ok v xs := by
 unfold R at hr ⊢
 rw [← hs]
 exact ⟨hr.1, hr.2.imp_ (fun _ _ hp => h _ _ _ _ _ hp)⟩
theorem mono_slice {α β : Type} (e : Nat) {G : Kd α → Kd β} (hG : Mono G) : Mono (fun d => slice e (G d)) := by
 refine ⟨fun _ _ _ => rfl, fun _ _ _ h => h.elim, ?_, ?_⟩
 ·rintro d d' hs hpl h w x cs ⟨A, c, rfl, hl, hr⟩
  exact ⟨A, c, rfl, hl, C_imp (hG.sz d d' hs) (hG.pl d d' hpl) (hG.K d d' hs hpl h) hr⟩
 ·rintro d d' hs h w base ok x cs ⟨v, rfl, hr⟩
  exact ⟨v, rfl, R_imp (hG.sz d d' hs) (hG.M d d' hs h) hr⟩
theorem mono_pair {α β γ : Type} {G : Kd α → Kd β} {H : Kd α → Kd γ} (hG : Mono G) (hH : Mono H) : Mono (fun d => pair (G d) (H d)) := by
 refine ⟨fun d d' hs => ?_, fun _ _ _ h => h.elim, ?_, ?_⟩
 ·show (G d).sz + (H d).sz = (G d').sz + (H d').sz
  rw [hG.sz d d' hs, hH.sz d d' hs]
 ·rintro d d' hs hpl h w x cs ⟨c0, c1, rfl, h0, h1⟩
  exact ⟨c0, c1, rfl, hG.K d d' hs hpl h _ _ _ h0, hH.K d d' hs hpl h _ _ _ h1⟩
 ·rintro d d' hs h w base ok x cs ⟨c0, c1, rfl, h0, h1⟩
  exact ⟨c0, c1, rfl, hG.M d d' hs h _ _ _ _ _ h0, hH.M d d' hs h _ _ _ _ _ h1⟩
theorem mono_iso {α β γ : Type} {G : Kd α → Kd β} (f : γ → β) (hG : Mono G) : Mono (fun d => iso (G d) f) :=
 ⟨hG.sz, fun _ _ _ h => h.elim, fun d d' hs hpl h w x cs => hG.K d d' hs hpl h w (f x) cs, fun d d' hs h w base ok x cs => hG.M d d' hs h w base ok (f x) cs⟩
def Sub {α β : Type} (F : Kd α → Kd β) (E : List Nat) : Prop := ∀ d : Kd α, (∀ q, q ∈ d.E → q ∈ E) → ∀ q, q ∈ (F d).E → q ∈ E
theorem sub_const {α β : Type} {E : List Nat} (k : Kd β) (h : ∀ q, q ∈ k.E → q ∈ E) : Sub (fun _ : Kd α => k) E := fun _ _ => h
theorem sub_id {α : Type} {E : List Nat} : Sub (fun d : Kd α => d) E := fun _ h => h
theorem sub_slice {α β : Type} {E : List Nat} (e : Nat) {G : Kd α → Kd β} (he : e ∈ E) (hG : Sub G E) : Sub (fun d => slice e (G d)) E := fun d h q hq => by
 rcases List.mem_cons.1 hq with rfl | hq
 ·exact he
 ·exact hG d h q hq
theorem sub_pair {α β γ : Type} {E : List Nat} {G : Kd α → Kd β} {H : Kd α → Kd γ} (hG : Sub G E) (hH : Sub H E) : Sub (fun d => pair (G d) (H d)) E := fun d h q hq => by
 rcases List.mem_append.1 hq with hq | hq
 ·exact hG d h q hq
 ·exact hH d h q hq
theorem sub_iso {α β γ : Type} {E : List Nat} {G : Kd α → Kd β} (f : γ → β) (hG : Sub G E) : Sub (fun d => iso (G d) f) E := hG
theorem upto_E {α : Type} {F : Kd α → Kd α} {sz : Nat} {E : List Nat} (h : Sub F E) : ∀ n q, q ∈ (upto F sz E n).E → q ∈ E
 | 0, _, hq => hq
 | n + 1, q, hq => h _ (upto_E h n) q hq
theorem upto_sz {α : Type} {F : Kd α → Kd α} {sz : Nat} {E : List Nat} (h : ∀ d : Kd α, (F d).sz = sz) : ∀ n, (upto F sz E n).sz = sz
 | 0 => rfl
 | _ + 1 => h _
section
variable {α : Type} {F : Kd α → Kd α} {sz : Nat} {E : List Nat} {hs : ∀ n, (upto F sz E n).sz = sz} {hE : ∀ n q, q ∈ (upto F sz E n).E → q ∈ E}
theorem upto_K (hm : Mono F) (hs : ∀ n, (upto F sz E n).sz = sz) : ∀ n {w x cs}, (upto F sz E n).K w x cs → (upto F sz E (n + 1)).K w x cs
 | 0, _, _, _, h => h.elim
 | n + 1, _, _, _, h => hm.K _ _ (by rw [hs n, hs (n + 1)]) (fun _ => upto_pl n) (fun _ _ _ hk => upto_K hm hs n hk) _ _ _ h
theorem upto_K_le (hm : Mono F) (hs : ∀ n, (upto F sz E n).sz = sz) {n m : Nat} (hnm : n ≤ m) {w x cs} (h : (upto F sz E n).K w x cs) : (upto F sz E m).K w x cs := by
 obtain ⟨j, rfl⟩ := Nat.exists_eq_add_of_le hnm
 induction j with
 | zero => exact h
 | succ j ih => exact upto_K hm hs _ (ih (by omega))
theorem fix_C {n : Nat} {w : World} {A : Option Addr} {m : Nat} {xs : List α} (h : (upto F sz E n).C w A m xs) : (fix F sz E hs hE).C w A m xs := C_imp (d' := fix F sz E hs hE) (hs n) (fun _ => upto_pl n) (fun w x cs hp => (⟨n, hp⟩ : ∃ n, (upto F sz E n).K w x cs)) h
theorem bounded {P : Nat → Nat → Prop} (hP : ∀ n m j, n ≤ m → P n j → P m j) : ∀ m, (∀ j, j < m → ∃ n, P n j) → ∃ N, ∀ j, j < m → P N j
 | 0, _ => ⟨0, fun j hj => absurd hj (Nat.not_lt_zero j)⟩
 | m + 1, h => by
  obtain ⟨N, hN⟩ := bounded hP m (fun j hj => h j (by omega))
  obtain ⟨n, hn⟩ := h m (by omega)
  refine ⟨max N n, fun j hj => ?_⟩
  rcases Nat.lt_or_ge j m with hj' | hj'
  ·exact hP N _ j (Nat.le_max_left _ _) (hN j hj')
  ·have : j = m := by omega
   subst this
   exact hP n _ j (Nat.le_max_right _ _) hn
theorem fix_C_back (hm : Mono F) {w : World} {A : Option Addr} {m : Nat} {xs : List α} (h0 : (fix F sz E hs hE).C w A m xs) : ∃ n, (upto F sz E n).C w A m xs := by
 obtain ⟨h, hty⟩ := h0
 rcases Nat.eq_zero_or_pos m with hz | hpos
 ·subst hz
  exact ⟨0, ⟨h.1, h.2.1, fun hp => absurd hp (Nat.lt_irrefl 0)⟩, Ty.zero _ _ _⟩
 ·obtain ⟨ad, e, hc⟩ := h.2.2 hpos
  obtain ⟨N, hN⟩ := bounded (P := fun n j => ∀ p, xs[j]? = some p → ∃ c, c.length = sz ∧ (upto F sz E n).K w p c ∧ ∀ i u, c[i]? = some u → w.cell? (ad.add (j * sz + i)) = some u)
   (fun n n' j hnm hp p hj => by
    obtain ⟨c, h1, h2, h3⟩ := hp p hj
    exact ⟨c, h1, upto_K_le hm hs hnm h2, h3⟩) xs.length
   (fun j hj => by
    obtain ⟨c, h1, ⟨n, h2⟩, h3⟩ := hc j _ (List.getElem?_eq_getElem hj)
    refine ⟨n, fun p hp => ?_⟩
    rw [List.getElem?_eq_getElem hj] at hp
    injection hp with hp
    rw [← hp]
    exact ⟨c, h1, h2, h3⟩)
  refine ⟨N, ⟨h.1, h.2.1, fun _ => ⟨ad, e, fun j p hj => ?_⟩⟩, fun _ => hty trivial⟩
  rw [hs N]
  exact hN j (List.getElem?_eq_some_iff.1 hj).1 p hj
theorem upto_C_le (hm : Mono F) (hs : ∀ n, (upto F sz E n).sz = sz) {n m : Nat} (hnm : n ≤ m) {w : World} {A : Option Addr} {l : Nat} {xs : List α} (h : (upto F sz E n).C w A l xs) : (upto F sz E m).C w A l xs := C_imp (by rw [hs n, hs m]) (fun _ => upto_pl n) (fun _ _ _ hp => upto_K_le hm hs hnm hp) h
end
end Kd
namespace Kd
section
variable {α β : Type} {d : Kd α} {d' : Kd β} {e e' : Nat} {w w1 W : World} {base b b' : Nat} {ok ok' okv oku : Nat → Prop} {v u : Value} {xs : List α} {ys : List β}
theorem C_max {A : Option Addr} {n : Nat} (h : d.C w A n xs) : n ≤ 9223372036854775807 := h.1.2.1
theorem R_reads' {A : Option Addr} {n c : Nat} (h : d.R e w base ok (.slice A n c) xs) : n = xs.length ∧ n ≤ c ∧ d.C w A xs.length xs := by
 obtain ⟨A', c', he, hl, hr⟩ := R_reads h
 injection he with h1 h2 h3
 subst h1
 exact ⟨h2, by omega, hr⟩
theorem R_lt (h : d.R e w base ok v xs) : ∀ k, v.ownBlock = some k → k < w.heap.size := by
 obtain ⟨inner, ho⟩ := R_own h
 exact own_lt ho
theorem R_form (h : d.R e w base ok v xs) (hp : 0 < xs.length) : ∃ g cap, v = .slice (some ⟨g, 0, none⟩) xs.length cap ∧ base ≤ g ∧ g < w.heap.size ∧ ∃ cells, w.heap[g]? = some (.cells cells e (0, 0)) := by
 obtain ⟨inner, ho⟩ := R_own h
 obtain ⟨g, cap, he, hb, hl⟩ := ho.form hp
 obtain ⟨cells, hc⟩ := own_typed ho g (by rw [he]; simp [Value.ownBlock])
 exact ⟨g, cap, he, hb, hl, cells, hc⟩
end
section
variable {w W : World} {A : Option Addr} {n : Nat}
theorem at_int {k : IntKind} {xs : List Int} (h : (Kd.int k).C w A n xs) (i : Int) (h0 : 0 ≤ i) (h1 : i < n) : ∃ ad, A = some ad ∧ w.cell? (ad.add i.toNat) = some (.int k (rd xs i)) :=
 ReadsOf.at_ (reads_of_C (enc := Value.int k) (d := (0 : Int)) (h1 := fun _ => rfl) h) i h0 h1
theorem at_bool {xs : List Bool} (h : Kd.bool.C w A n xs) (i : Int) (h0 : 0 ≤ i) (h1 : i < n) : ∃ ad, A = some ad ∧ w.cell? (ad.add i.toNat) = some (.bool (rdOf false xs i)) :=
 ReadsOf.at_ (reads_of_C (enc := Value.bool) (d := false) (h1 := fun _ => rfl) h) i h0 h1
variable {α : Type} {enc : α → Value} {h1 : ∀ x, (enc x).oneCell' = true} {e base g cap : Nat} {ok : Nat → Prop} {xs : List α}
theorem R_cell (d : α) (h : (scalar enc h1).R e W base ok (.slice (some ⟨g, 0, none⟩) xs.length cap) xs) (i : Int) (h0 : 0 ≤ i) (hi : i < xs.length) : W.cell? ⟨g, i.toNat, none⟩ = some (enc (rdOf d xs i)) ∧ W.frozen? ⟨g, i.toNat, none⟩ = false := own_at_of (own_of_R h) i h0 hi
theorem R_put (h : (scalar enc h1).R e W base ok (.slice (some ⟨g, 0, none⟩) xs.length cap) xs) (i : Int) (x : α) : (scalar enc h1).R e (W.setCell ⟨g, i.toNat, none⟩ (enc x)) base ok (.slice (some ⟨g, 0, none⟩) xs.length cap) (xs.set i.toNat x) ∧ W.grownBy (W.setCell ⟨g, i.toNat, none⟩ (enc x)) (some g) := by
 obtain ⟨ho, hg⟩ := own_store_of (own_of_R h) i x
 exact ⟨R_of_own (by rw [List.length_set]; exact ho) h.1, hg⟩
end
section
variable {P : Program} {ops : Array Oper} {rest : List Oper} {o : Oper} {a : Act} {Q : Exit → Act → World → Prop}
theorem event_run {W w1 : World} {v : Value} (hgd : o.guard = none) (hrun : (execOp a.eval o).run P W = .ok (.value v) w1) (h : wpList P ops Q rest (a.put o.dst v) w1) : wpList P ops Q (o :: rest) a W := by
 refine wpList_plain hgd fun K hK => ?_
 unfold Oper.wp
 rw [hrun]
 exact hK _ _ h
variable {α : Type}
theorem R_lit (d : Kd α) {w0 W : World} (base e : Nat) (hgd : o.guard = none) {N : Tmp} (_hd : o.dst = some N) {xs : List α} {inner : List Value} {ok okp : Nat → Prop}
  (hrun : (execOp a.eval o).run P W = .ok (.value (.slice (some ⟨W.heap.size, 0, none⟩) xs.length xs.length)) (W.alloc (.cells inner.toArray e)))
  (hrep : Reps (d.M W base okp) d.sz xs inner) (hok : ∀ k, okp k → ok k) (hfresh : ok W.heap.size) (HB : Below base w0 W) (hbase : base ≤ W.heap.size) (hm : xs.length ≤ 9223372036854775807)
  (h : ∀ v1 w1, d.R e w1 base ok v1 xs → Below base w0 w1 → W.grownBy w1 none → (∃ b, v1.ownBlock = some b ∧ W.heap.size ≤ b) → wpList P ops Q rest (a.put o.dst v1) w1) : wpList P ops Q (o :: rest) a W := by
 refine event_run hgd hrun (h _ _ ⟨fun k hk => ?_, inner, ?_, ?_⟩ (HB.alloc hbase _) (World.grownBy_alloc W _ none) ⟨W.heap.size, by simp [Value.ownBlock], Nat.le_refl _⟩)
 ·have : W.heap.size = k := by simpa [Value.ownBlock] using hk
  subst this
  exact hfresh
 ·have h2 := World.ownsRow_lit (base := base) (e := e) (size := d.sz) W inner.toArray xs.length hbase (by simpa [maxLen] using hm) (by simpa using hrep.1)
  simpa using h2
 ·refine hrep.imp_ (fun p c hp => d.M_mono (fun k hk => ⟨hok k hk.1, fun he => ?_⟩) (M_below (d.M_bound hp) (below_alloc (Below.refl _ _) _)))
  have h3 : k = W.heap.size := by simpa [Value.ownBlock] using he
  have := hk.2.2.1
  omega
theorem reps_made {α : Type} {R : α → List Value → Prop} {z : Value} {size : Nat} {z0 : α} (hz : z.cells.size = size) (hs : 0 < size) (h0 : R z0 z.cells.toList) (m : Nat) : Reps R size (List.replicate m z0) (madeCells z.cells (m * size)).toList := by
 refine ⟨by simp [size_madeCells], fun j p hj => ?_⟩
 obtain ⟨hjl, hp⟩ := List.getElem?_eq_some_iff.1 hj
 have hjm : j < m := by simpa using hjl
 have hp' : z0 = p := by simpa using hp
 subst hp'
 have hle : j * size + size ≤ m * size := by rw [← Nat.succ_mul]; exact Nat.mul_le_mul_right _ hjm
 have : ((madeCells z.cells (m * size)).toList.drop (j * size)).take size = z.cells.toList := by
  apply List.ext_getElem
  ·simp [size_madeCells, hz]
   omega
  ·intro i h1 h2
   have hi : i < size := by rw [Array.length_toList, hz] at h2; exact h2
   have hmod : (j * size + i) % size = i := by
    rw [Nat.mul_comm, Nat.mul_add_mod]
    exact Nat.mod_eq_of_lt hi
   simp [madeCells, hz, hmod]
   rw [getElem!_pos z.cells i (by omega)]
 rw [this]
 exact h0
theorem R_make (d : Kd α) {w0 W : World} (base e : Nat) (hgd : o.guard = none) {N : Tmp} (hd : o.dst = some N) (t : TypeId) (x y : Operand) (ho : o.op = .makeSlice t x y) (n : Int) (hx : a.eval x = .int .i64 n) (hy : a.eval y = .int .i64 n)
  (ht : P.underlying t = some (.slice e)) (z : Value) (bytes : Nat) (hinfo : (P.info? e).map (fun i => (i.zero, i.size, i.bytes)) = some (some z, d.sz, bytes)) (hz : z.cells.size = d.sz) (hs0 : 0 < d.sz) (hb0 : 0 < bytes)
  (z0 : α) {ok okp : Nat → Prop} (hzero : d.M W base okp z0 z.cells.toList) (hok : ∀ k, okp k → ok k) (hfresh : ok W.heap.size) (h0 : 0 ≤ n) (hl : n.toNat * bytes ≤ 281474976710656) (HB : Below base w0 W) (hbase : base ≤ W.heap.size)
  (h : ∀ v1 w1, d.R e w1 base ok v1 (List.replicate n.toNat z0) → Below base w0 w1 → W.grownBy w1 none → (∃ b, v1.ownBlock = some b ∧ W.heap.size ≤ b) → wpList P ops Q rest (a.put o.dst v1) w1) : wpList P ops Q (o :: rest) a W := by
 obtain ⟨m, rfl⟩ := Int.eq_ofNat_of_zero_le h0
 simp only [Int.toNat_natCast] at hl h
 obtain ⟨i0, hi, hzz⟩ := Option.map_eq_some_iff.1 hinfo
 simp only [Prod.mk.injEq] at hzz
 obtain ⟨hz0, hz1, hz2⟩ := hzz
 have hm : m ≤ 281474976710656 := Nat.le_trans (Nat.le_mul_of_pos_right _ hb0) hl
 have hr := run_make (P := P) W t e i0 z ht hi hz0 .i64 .i64 (m : Int) (m : Int) (by omega) (by omega)
  (by
   have h3 : ((i0.bytes * m : Nat) : Int) ≤ 281474976710656 := by rw [hz2, Nat.mul_comm]; omega
   rwa [Int.natCast_mul] at h3) (by omega)
 simp only [Int.toNat_natCast] at hr
 rw [hz1] at hr
 refine R_lit d base e hgd hd (xs := List.replicate m z0) (inner := (madeCells z.cells (m * d.sz)).toList) (okp := okp) (ok := ok) ?_ (reps_made hz hs0 hzero m) hok hfresh HB hbase (by simp; omega) h
 simp [execOp, ho, hx, hy, hr]
end
end Kd
def QRow (w : World) (base : Nat) (e : TypeId) (size : Nat) (v : Value) (n : Nat) (xs : List Value) : Prop :=
 xs.length = n * size ∧
 ((n = 0 ∧ ∃ A, v = .slice A 0 0 ∧ ∀ a, A = some a → base ≤ a.block ∧ ∃ cur, w.heap[a.block]? = some (.cells cur e (0, 0))) ∨
  ∃ g off cap cur, v = .slice (some ⟨g, off * size, none⟩) n cap ∧ base ≤ g ∧ w.heap[g]? = some (.cells cur e (0, 0)) ∧ n ≤ cap ∧ off + cap ≤ maxLen ∧ cur.size = (off + cap) * size ∧ (cur.toList.drop (off * size)).take (n * size) = xs)
section
variable {w w1 : World} {base n size : Nat} {e : TypeId} {v : Value} {xs : List Value}
theorem add_at (g o j : Nat) : (⟨g, o, none⟩ : Addr).add j = ⟨g, o + j, none⟩ := by unfold Addr.add; split <;> simp_all
end
namespace Kd
def Q {α : Type} (d : Kd α) (e : Nat) (w : World) (base : Nat) (ok : Nat → Prop) (v : Value) (xs : List α) : Prop :=
 (∀ k, v.ownBlock = some k → ok k) ∧ ∃ inner, QRow w base e d.sz v xs.length inner ∧ Reps (d.M w base (fun k => ok k ∧ some k ≠ v.ownBlock)) d.sz xs inner
end Kd
theorem ReadsInt.nil (W : World) (k : IntKind) : ReadsInt W k none ([] : List Int).length [] := ⟨rfl, by simp, fun h => absurd h (Nat.lt_irrefl 0)⟩
theorem ReadsInt.drewN {W : World} {k : IntKind} {A : Option Addr} {n : Nat} {xs : List Int} (h : ReadsInt W k A n xs) (m : Nat) : ReadsInt (W.drewN m) k A n xs := h
theorem ReadsInt.ofRow {k : IntKind} {w : World} {a : Option Addr} {len cap : Nat} {zs : List Int} (h : (a = none ∧ len = 0 ∧ cap = 0 ∧ zs = []) ∨ ∃ x, a = some x ∧ len ≤ cap ∧ cap ≤ maxLen ∧ zs.length = cap ∧ (∀ i, i < zs.length → w.cell? (x.add i) = some (.int k (zs.getD i 0))) ∧ ∀ n ∈ zs, (Lit.int k n).wf = true) :
  ∃ l : List Int, len = l.length ∧ ReadsInt w k a l.length l ∧ l.length ≤ maxLen ∧ ∀ x ∈ l, (Lit.int k x).wf = true := by
 rcases h with ⟨rfl, rfl, rfl, rfl⟩ | ⟨x, rfl, hl, hm, hz, hc, hw⟩
 ·exact ⟨[], rfl, ReadsInt.nil _ _, Nat.zero_le _, fun x hx => by simp at hx⟩
 ·have e : (zs.take len).length = len := by simp; omega
  have hm' : len ≤ maxLen := Nat.le_trans hl hm
  refine ⟨zs.take len, e.symm, ⟨rfl, by rw [e]; simpa [maxLen] using hm', fun _ => ⟨x, rfl, fun j hj => ?_⟩⟩, by rw [e]; exact hm', fun y hy => hw y (List.mem_of_mem_take hy)⟩
  rw [e] at hj
  rw [hc j (by omega)]
  simp [List.getD, List.getElem?_take, hj]
theorem below_set {w W : World} {g j : Nat} {v : Value} (h : Below w.heap.size w W) (hg : w.heap.size ≤ g) : Below w.heap.size w (W.setCell ⟨g, j, none⟩ v) := h.setCell hg _
theorem keep_cell {w W : World} {g : Nat} (h : KeepBut w W g none) {a : Addr} {v : Value} (hc : w.cell? a = some v) (hne : a.block ≠ g) : W.cell? a = some v := by
 have := h.2 a.block (World.block_lt_of_cell? w a hc) hne (by simp)
 simpa [World.cell?, this] using hc
theorem add_block (a : Addr) (i : Nat) : (a.add i).block = a.block := by unfold Addr.add; split <;> rfl
theorem ReadsOf.nil {α : Type} (enc : α → Value) (d : α) (W : World) : ReadsOf enc d W none ([] : List α).length [] := ⟨rfl, by simp, fun h => absurd h (Nat.lt_irrefl 0)⟩
theorem ReadsOf.drewN {α : Type} {enc : α → Value} {d : α} {W : World} {A : Option Addr} {n : Nat} {xs : List α} (h : ReadsOf enc d W A n xs) (m : Nat) : ReadsOf enc d (W.drewN m) A n xs := h
theorem ReadsInt.keep {w W : World} {k : IntKind} {A : Option Addr} {n g : Nat} {xs : List Int} (h : ReadsInt w k A n xs) (hk : KeepBut w W g none) (hf : ∀ ad, A = some ad → 0 < n → ad.block ≠ g) : ReadsInt W k A n xs :=
 ⟨h.1, h.2.1, fun hn => by
  obtain ⟨ad, e, hc⟩ := h.2.2 hn
  exact ⟨ad, e, fun j hj => keep_cell hk (hc j hj) (by rw [add_block]; exact hf ad e hn)⟩⟩
theorem ReadsOf.keep {α : Type} {enc : α → Value} {d : α} {w W : World} {A : Option Addr} {n g : Nat} {xs : List α} (h : ReadsOf enc d w A n xs) (hk : KeepBut w W g none) (hf : ∀ ad, A = some ad → 0 < n → ad.block ≠ g) : ReadsOf enc d W A n xs :=
 ⟨h.1, h.2.1, fun hn => by
  obtain ⟨ad, e, hc⟩ := h.2.2 hn
  exact ⟨ad, e, fun j hj => keep_cell hk (hc j hj) (by rw [add_block]; exact hf ad e hn)⟩⟩
theorem ReadsInt.ofRowC {k : IntKind} {w : World} {a : Option Addr} {len cap : Nat} {zs : List Int} (h : (a = none ∧ len = 0 ∧ cap = 0 ∧ zs = []) ∨ ∃ x, a = some x ∧ len ≤ cap ∧ cap ≤ maxLen ∧ zs.length = cap ∧ (∀ i, i < zs.length → w.cell? (x.add i) = some (.int k (zs.getD i 0))) ∧ ∀ n ∈ zs, (Lit.int k n).wf = true) :
  ∃ l : List Int, len = l.length ∧ ReadsInt w k a l.length l ∧ l.length ≤ maxLen ∧ (∀ x ∈ l, (Lit.int k x).wf = true) ∧ l.length ≤ cap := by
 have hl : len ≤ cap := by
  rcases h with ⟨_, rfl, rfl, _⟩ | ⟨_, _, h, _⟩
  ·exact Nat.le_refl _
  ·exact h
 obtain ⟨l, e, h1, h2, h3⟩ := ReadsInt.ofRow h
 exact ⟨l, e, h1, h2, h3, e ▸ hl⟩
namespace Kd
section
variable {α : Type} {enc : α → Value} {h1 : ∀ x, (enc x).oneCell' = true} {e base g n cap : Nat} {ok : Nat → Prop} {W : World} {xs : List α}
theorem R_celln (d : α) (h : (scalar enc h1).R e W base ok (.slice (some ⟨g, 0, none⟩) n cap) xs) (i : Int) (h0 : 0 ≤ i) (hi : i < n) : W.cell? ⟨g, i.toNat, none⟩ = some (enc (rdOf d xs i)) ∧ W.frozen? ⟨g, i.toNat, none⟩ = false := by
 obtain ⟨rfl, _⟩ := R_reads' h
 exact R_cell d h i h0 hi
end
end Kd
section
variable {P : Program} {ops : Array Oper} {rest : List Oper} {o : Oper} {a : Act} {Q : Exit → Act → World → Prop}
theorem store_event {W w1 : World} (hgd : o.guard = none) {t : TypeId} {p : Tmp} {v : Operand} (_ho : o.op = .store t (.tmp p) v) (hN : o.dst = none)
  (hrun : (execOp a.eval o).run P W = .ok .skip w1) (h : ∀ w', w' = w1 → wpList P ops Q rest a w') : wpList P ops Q (o :: rest) a W := by
 refine wpList_plain hgd fun K hK => ?_
 unfold Oper.wp
 rw [hrun]
 show K (a.put o.dst undef) w1
 rw [hN]
 exact hK _ _ (h _ rfl)
end
namespace Kd
section
variable {α : Type} {enc : α → Value} {h1 : ∀ x, (enc x).oneCell' = true} {e base g n cap : Nat} {ok : Nat → Prop} {W : World} {xs : List α}
theorem R_putg (h : (scalar enc h1).R e W base ok (.slice (some ⟨g, 0, none⟩) n cap) xs) (i : Int) (x : α) : (scalar enc h1).R e (W.setCell ⟨g, i.toNat, none⟩ (enc x)) base ok (.slice (some ⟨g, 0, none⟩) n cap) (xs.set i.toNat x) ∧ W.grownBy (W.setCell ⟨g, i.toNat, none⟩ (enc x)) (some g) := by
 obtain ⟨rfl, _⟩ := R_reads' h
 exact R_put h i x
end
end Kd
section
variable {P : Program} {ops : Array Oper} {rest : List Oper} {o : Oper} {a : Act} {Q : Exit → Act → World → Prop} {W : World}
theorem gate_dst {N : Tmp} (_hN : o.dst = some N) (h : wpList P ops Q (o :: rest) a W) : wpList P ops Q (o :: rest) a W := h
theorem gate_store {t : TypeId} {p : Tmp} {v : Operand} (_ho : o.op = .store t (.tmp p) v) (h : wpList P ops Q (o :: rest) a W) : wpList P ops Q (o :: rest) a W := h
end
end Go.Proofs.YtodbnnfiadcbaaaW.PrintWords
end
section
namespace Go.Proofs.YtodbnnfiadcbaaaW.PrintLast
section
variable {P : Program} {ops : Array Oper} {Q : Exit → Act → World → Prop} {md : Region.Mode} {S : World → Prop} {ds : List Nat}
def ListedClosed (md : Region.Mode) (ops : Array Oper) (listed : Array Bool) : Prop :=
 ∀ j oj, ops[j]? = some oj → listed.getD j false = true → ∀ e ∈ oj.after, Region.binds md e = true → listed.getD e.on false = true
theorem ListedClosed.set {listed : Array Bool} {i : Nat} (h : ListedClosed md ops listed) (hi : i ∈ Region.ready md ops listed) : ListedClosed md ops (listed.setIfInBounds i true) := by
 obtain ⟨_, oi, hoi, hall⟩ := mem_ready.1 hi
 intro j oj hj hl e he hb
 by_cases hij : i = j
 ·subst hij
  have : oj = oi := Option.some.inj (hj.symm.trans hoi)
  subst this
  exact getD_set_true (hall e he hb)
 ·rw [getD_set_ne false hij] at hl
  exact getD_set_true (h j oj hj hl e he hb)
def wpAnyLast (P : Program) (md : Region.Mode) (ops : Array Oper) (Q : Exit → Act → World → Prop) (S : World → Prop) (ds : List Nat) : Nat → Array Bool → Act → World → Prop
 | 0, listed, a, w => Region.ready md ops listed = [] ∧ Q .normal a w
 | fuel + 1, listed, a, w =>
  (Region.ready md ops listed = [] → Q .normal a w) ∧
  ∀ i ∈ Region.ready md ops listed, wpOp P ops Q i (fun a' w' => (i ∉ ds → S w → S w') ∧ wpAnyLast P md ops Q S ds fuel (listed.setIfInBounds i true) a' w') a w
end
section
variable {P : Program} {ops : Array Oper} {Q : Exit → Act → World → Prop} {md : Region.Mode} {S : World → Prop} {ds : List Nat}
def AllReadyL (P : Program) (md : Region.Mode) (ops : Array Oper) (Q : Exit → Act → World → Prop) (S : World → Prop) (ds : List Nat) (fuel : Nat) (listed : Array Bool) (a : Act) (w : World) (rs : List Nat) : Prop :=
 ∀ i ∈ rs, wpOp P ops Q i (fun a' w' => (i ∉ ds → S w → S w') ∧ wpAnyLast P md ops Q S ds fuel (listed.setIfInBounds i true) a' w') a w
theorem AllReadyL.nil {fuel : Nat} {listed : Array Bool} {a : Act} {w : World} : AllReadyL P md ops Q S ds fuel listed a w [] := fun _ h => by cases h
theorem AllReadyL.cons {fuel : Nat} {listed : Array Bool} {a : Act} {w : World} {i : Nat} {o : Oper} {rs : List Nat} (ho : ops[i]? = some o) (hd : i ∉ ds)
  (h : ∀ K' : Act → World → Prop, Shut (∀ a w, S w → (S w → wpAnyLast P md ops Q S ds fuel (listed.setIfInBounds i true) a w) → K' a w) → if Region.wanted o (yielded ops a.tmps) = true then Oper.wp P o a w K' Q else K' (a.put o.dst undef) w)
  (hs : AllReadyL P md ops Q S ds fuel listed a w rs) : AllReadyL P md ops Q S ds fuel listed a w (i :: rs) := fun j hj => by
 rcases List.mem_cons.1 hj with rfl | hj
 ·exact wpOp_step ho (fun K' hK => h K' (fun a w hS hW => hK a w ⟨fun _ _ => hS, hW hS⟩))
 ·exact hs j hj
theorem enters_ {f : FuncId} {fn : Func} (hf : P.funcs[f]? = some fn) (hname : (fn.name == "runtime.NumGoroutine") = false) (hb : fn.body.isSome = true) (args : Array Value) (w : World) : (callFunc f args).run P w = .ok (.enter f args) w := by
 have h1 : fn.name ≠ "runtime.NumGoroutine" := by simpa using hname
 obtain ⟨c, hc⟩ := Option.isSome_iff_exists.1 hb
 simp [callFunc, hf, h1, hc]
theorem goesL_ {rest : List Oper} {oi : Oper} {a : Act} {w : World} (N : Option Tmp) (hd : oi.dst = N) (hg : oi.guard = none) {f : FuncId} {fn : Func} {as_ : Array Operand} {ts : Array TypeId} (hf : P.funcs[f]? = some fn) (hname : (fn.name == "runtime.NumGoroutine") = false) (hb : fn.body.isSome = true) (args : Array Value)
  (hop : oi.op = .call { callee := .value (.func f), args := as_, argTypes := ts }) (hargs : as_.map a.eval = args)
  (h : Calls P f args w fun e w' => ∃ v, e = .returned v ∧ wpList P ops Q rest (a.put N v) w') : wpList P ops Q (oi :: rest) a w := by
 refine wpList_plain hg fun K hK => ?_
 have he := enters_ hf hname hb args w
 have hrun : (execOp a.eval oi).run P w = .ok (.enter f args) w := by
  unfold execOp
  simp [hop, resolve, Deferred.ofValue, invoke, Act.eval, hargs, he]
 unfold Oper.wp
 rw [hrun, Oper.upon_enter]
 refine h.mono fun e w'' hh => ?_
 obtain ⟨v, rfl, hk⟩ := hh
 subst hd
 exact hK _ _ hk
end
end Go.Proofs.YtodbnnfiadcbaaaW.PrintLast
end
section
namespace Go.Proofs.YtodbnnfiadcbaaaW.PrintWords
open Go.RowKit
namespace Kd
def tag {α : Type} (f : Nat → Nat) (d : Kd α) : Kd (α × Nat) where
 sz := d.sz
 E := d.E
 K := fun w x cs => d.K w x.1 cs
 M := fun w base ok x cs => d.M w base (fun k => ok k ∧ f k = x.2) x.1 cs
 K_len := fun h => d.K_len h
 K_one := fun h => d.K_one h
 K_below := fun hb h => d.K_below hb h
 K_of_M := fun h => d.K_of_M h
 M_mono := fun hok h => d.M_mono (fun k hk => ⟨hok k hk.1, hk.2⟩) h
 M_bound := fun h => d.M_mono (fun _ hk => ⟨⟨hk.1.1, hk.2⟩, hk.1.2⟩) (d.M_bound h)
 M_move := fun hm h => d.M_move (fun k hk => hm k hk.1) h
 M_lower := fun hb h => d.M_lower hb h
def raw (sz : Nat) : Kd (List Value) where
 sz := sz
 E := []
 K := fun _ x cs => cs = x ∧ cs.length = sz ∧ ∀ u ∈ cs, u.oneCell' = true
 M := fun _ _ _ x cs => cs = x ∧ cs.length = sz ∧ ∀ u ∈ cs, u.oneCell' = true
 K_len := fun h => h.2.1
 K_one := fun h => h.2.2
 K_below := fun _ h => h
 K_of_M := fun h => h
 M_mono := fun _ h => h
 M_bound := fun h => h
 M_move := fun _ h => h
 M_lower := fun _ h => h
def S {α : Type} (d : Kd α) (e : Nat) (w : World) (base : Nat) (ok : Nat → Prop) (v : Value) (xs : List α) : Prop := ∃ f, (tag f d).R e w base ok v xs.zipIdx
def gap {α : Type} (f : Nat → Nat) (d : Kd α) (i : Nat) (c : List Value) : Kd (α × Nat) where
 sz := d.sz
 E := d.E
 K := fun w x cs => (x.2 = i → cs = c ∧ cs.length = d.sz ∧ ∀ u ∈ cs, u.oneCell' = true) ∧ (x.2 ≠ i → d.K w x.1 cs)
 M := fun w base ok x cs => (x.2 = i → cs = c ∧ cs.length = d.sz ∧ ∀ u ∈ cs, u.oneCell' = true) ∧ (x.2 ≠ i → d.M w base (fun k => ok k ∧ f k = x.2) x.1 cs)
 K_len := fun {w x cs} h => by
  by_cases hx : x.2 = i
  ·exact (h.1 hx).2.1
  ·exact d.K_len (h.2 hx)
 K_one := fun {w x cs} h => by
  by_cases hx : x.2 = i
  ·exact (h.1 hx).2.2
  ·exact d.K_one (h.2 hx)
 K_below := fun hb h => ⟨h.1, fun hx => d.K_below hb (h.2 hx)⟩
 K_of_M := fun h => ⟨h.1, fun hx => d.K_of_M (h.2 hx)⟩
 M_mono := fun hok h => ⟨h.1, fun hx => d.M_mono (fun k hk => ⟨hok k hk.1, hk.2⟩) (h.2 hx)⟩
 M_bound := fun h => ⟨h.1, fun hx => d.M_mono (fun _ hk => ⟨⟨hk.1.1, hk.2⟩, hk.1.2⟩) (d.M_bound (h.2 hx))⟩
 M_move := fun hm h => ⟨h.1, fun hx => d.M_move (fun k hk => hm k hk.1) (h.2 hx)⟩
 M_lower := fun hb h => ⟨h.1, fun hx => d.M_lower hb (h.2 hx)⟩
def H {α : Type} (d : Kd α) (e : Nat) (w : World) (base : Nat) (ok : Nat → Prop) (v : Value) (xs : List α) (i : Int) (oki : Nat → Prop) (c : List Value) : Prop :=
 (∀ k, oki k → ok k) ∧ ∃ f, (gap f d i.toNat c).R e w base (fun k => ok k ∧ ¬ oki k) v xs.zipIdx
end Kd
end Go.Proofs.YtodbnnfiadcbaaaW.PrintWords
end
section
namespace Go.Proofs.YtodbnnfiadcbaaaW.PrintWords
open Go.RowKit
namespace Kd
structure Heap {α : Type} (d : Kd α) : Prop where
 K : ∀ {w w1 : World} {x : α} {cs : List Value}, (∀ k, k < w.heap.size → w1.heap[k]? = w.heap[k]?) → d.K w x cs → d.K w1 x cs
theorem cell_heap {w w1 : World} (hb : ∀ k, k < w.heap.size → w1.heap[k]? = w.heap[k]?) {a : Addr} {v : Value} (h : w.cell? a = some v) : w1.cell? a = some v := by
 have := hb a.block (World.block_lt_of_cell? w a h)
 simpa [World.cell?, this] using h
theorem Heap.C {α : Type} {d : Kd α} (hd : Heap d) {w w1 : World} {A : Option Addr} {n : Nat} {xs : List α} (hb : ∀ k, k < w.heap.size → w1.heap[k]? = w.heap[k]?) (h : d.C w A n xs) : d.C w1 A n xs :=
 ⟨⟨h.1.1, h.1.2.1, fun hn => by
  obtain ⟨ad, e, hc⟩ := h.1.2.2 hn
  refine ⟨ad, e, fun j p hj => ?_⟩
  obtain ⟨c, hs, hr, hcell⟩ := hc j p hj
  exact ⟨c, hs, hd.K hb hr, fun i u hu => cell_heap hb (hcell i u hu)⟩⟩, h.2.move (fun _ _ _ hk => hb _ hk)⟩
theorem heap_int (k : IntKind) : Heap (Kd.int k) := ⟨fun _ h => h⟩
theorem heap_slice {α : Type} {d : Kd α} (e : Nat) (hd : Heap d) : Heap (slice e d) := ⟨by
 rintro w w1 x cs hb ⟨A, c, rfl, hl, hr⟩
 exact ⟨A, c, rfl, hl, hd.C hb hr⟩⟩
theorem heap_pair {α β : Type} {a : Kd α} {b : Kd β} (ha : Heap a) (hb' : Heap b) : Heap (pair a b) := ⟨by
 rintro w w1 x cs hb ⟨c0, c1, rfl, h0, h1⟩
 exact ⟨c0, c1, rfl, ha.K hb h0, hb'.K hb h1⟩⟩
theorem heap_iso {α β : Type} {d : Kd α} (f : β → α) (hd : Heap d) : Heap (iso d f) := ⟨fun hb h => hd.K hb h⟩
theorem heap_bot {α : Type} (sz : Nat) (E : List Nat) : Heap (bot sz E : Kd α) := ⟨fun _ h => h⟩
theorem heap_upto {α : Type} {F : Kd α → Kd α} {sz : Nat} {E : List Nat} (hF : ∀ d, Heap d → Heap (F d)) : ∀ n, Heap (upto F sz E n)
 | 0 => heap_bot sz E
 | n + 1 => ⟨fun hb hk => (hF _ (heap_upto hF n)).K hb hk⟩
theorem heap_fix {α : Type} {F : Kd α → Kd α} {sz : Nat} {E : List Nat} {hs : ∀ n, (upto F sz E n).sz = sz} {hE : ∀ n q, q ∈ (upto F sz E n).E → q ∈ E} (hF : ∀ d, Heap d → Heap (F d)) : Heap (fix F sz E hs hE) := ⟨by
 rintro w w1 x cs hb ⟨n, h⟩
 exact ⟨n, (heap_upto hF n).K hb h⟩⟩
end Kd
end Go.Proofs.YtodbnnfiadcbaaaW.PrintWords
end
section
namespace Go.Proofs.YtodbnnfiadcbaaaW.PrintWords
open Go.RowKit
def Kept (w W : World) (S : Nat → Prop) : Prop := w.heap.size ≤ W.heap.size ∧ ∀ i, i < w.heap.size → ¬ S i → W.heap[i]? = w.heap[i]?
section
variable {w W W2 : World} {S S2 S' : Nat → Prop}
theorem Kept.refl (w : World) (S : Nat → Prop) : Kept w w S := ⟨Nat.le_refl _, fun _ _ _ => rfl⟩
theorem Kept.of_below (h : Below w.heap.size w W) (S : Nat → Prop) : Kept w W S := ⟨h.size, fun i hi _ => h.block i hi⟩
theorem Kept.mono (h : Kept w W S) (hs : ∀ k, S k → S' k) : Kept w W S' := ⟨h.1, fun i hi hn => h.2 i hi (fun hk => hn (hs i hk))⟩
theorem Kept.then_ (h : Kept w W S) (k : Kept W W2 S2) (hs : ∀ k, S2 k → S k ∨ w.heap.size ≤ k) : Kept w W2 S :=
 ⟨Nat.le_trans h.1 k.1, fun i hi hn => (k.2 i (Nat.lt_of_lt_of_le hi h.1) (fun h2 => (hs i h2).elim hn (fun h3 => by omega))).trans (h.2 i hi hn)⟩
theorem Kept.of_grown {row : Option Nat} (hg : W.grownBy W2 row) (h : Kept w W S) (hr : ∀ k, row = some k → S k ∨ w.heap.size ≤ k) : Kept w W2 S :=
 h.then_ (S2 := fun k => row = some k) ⟨hg.size, fun i hi hn => hg.block i hi (fun he => hn he.symm)⟩ hr
theorem Kept.below (h : Kept w W S) (hb : Below W.heap.size W W2) : Kept w W2 S := h.then_ (Kept.of_below hb (fun _ => False)) (fun _ hk => hk.elim)
theorem Kept.alloc (h : Kept w W S) (o : Obj) : Kept w (W.alloc o) S := h.below (below_alloc (Below.refl _ _) o)
theorem Kept.drew (h : Kept w W S) : Kept w W.drew S := h
theorem Kept.drewN (h : Kept w W S) (m : Nat) : Kept w (W.drewN m) S := h
theorem Kept.setCell (h : Kept w W S) {p : Addr} (hp : S p.block ∨ w.heap.size ≤ p.block) (u : Value) : Kept w (W.setCell p u) S :=
 h.then_ (S2 := fun k => k = p.block) ⟨by simp [World.setCell], fun i _ hn => Below.heap_setCell W p u i hn⟩ (fun k hk => by rw [hk]; exact hp)
theorem Kept.keep {g : Nat} (h : KeepBut w W g none) (k : Kept W W2 S2) (hs : ∀ k, S2 k → w.heap.size ≤ k) : KeepBut w W2 g none :=
 ⟨Nat.le_trans h.1 k.1, fun i hi hg hr => (k.2 i (Nat.lt_of_lt_of_le hi h.1) (fun h2 => by have := hs i h2; omega)).trans (h.2 i hi hg hr)⟩
theorem blk_kept {g : Nat} {o : Obj} (hb : W.heap[g]? = some o) (hk : Kept W W2 S) (hne : ¬ S g) : W2.heap[g]? = some o := (hk.2 g (blk_lt hb) hne).trans hb
end
namespace Kd
section
variable {α : Type} {d : Kd α} {e base n c : Nat} {ok oki S S2 : Nat → Prop} {w w0 W W1 W2 : World} {v : Value} {A : Option Addr} {xs : List α} {i : Int} {cs : List Value}
theorem C_kept_now (h : ∀ W', Kept w W' S → d.C W' A n xs) (hk : Kept w W S) : d.C W A n xs := h W hk
end
end Kd
end Go.Proofs.YtodbnnfiadcbaaaW.PrintWords
end
section
namespace Go.Proofs.YtodbnnfiadcbaaaW.PrintWords
open Go.RowKit
def Foot (P : World → Prop) (W : World) (ok : Nat → Prop) : Prop := ∀ W' : World, (∀ k, ok k → k < W.heap.size → W'.heap[k]? = W.heap[k]?) → P W'
theorem heap_lt {W W1 : World} {k : Nat} (h : W1.heap[k]? = W.heap[k]?) (hlt : k < W.heap.size) : k < W1.heap.size := by
 rw [Array.getElem?_eq_getElem hlt] at h
 exact (Array.getElem?_eq_some_iff.1 h).1
namespace Foot
variable {P Q : World → Prop} {W W1 : World} {ok ok' : Nat → Prop}
theorem now (h : Foot P W ok) : P W := h W (fun _ _ _ => rfl)
theorem mono (h : Foot P W ok) (hok : ∀ k, ok k → ok' k) : Foot P W ok' := fun W' hW => h W' (fun k hk hlt => hW k (hok k hk) hlt)
theorem bound (h : Foot P W ok) : Foot P W (fun k => ok k ∧ k < W.heap.size) := fun W' hW => h W' (fun k hk hlt => hW k ⟨hk, hlt⟩ hlt)
theorem step (h : Foot P W ok) (hm : ∀ k, ok k → k < W.heap.size → W1.heap[k]? = W.heap[k]?) : Foot P W1 ok := fun W' hW => h W' (fun k hk hlt => (hW k hk (heap_lt (hm k hk hlt) hlt)).trans (hm k hk hlt))
theorem old (h : Foot P W ok) (hb : Below W.heap.size W W1) : Foot P W1 (fun k => ok k ∧ k < W.heap.size) := (h.bound).step (fun k _ hlt => hb.block k hlt)
end Foot
namespace Kd
def F {α : Type} (d : Kd α) (W : World) (ok : Nat → Prop) (A : Option Addr) (n : Nat) (xs : List α) : Prop := Foot (fun W => d.C W A n xs) W ok
def FK {α : Type} (d : Kd α) (W : World) (ok : Nat → Prop) (x : α) (c : List Value) : Prop := Foot (fun W => d.K W x c) W ok
section
variable {α β : Type} {d : Kd α} {e base n n' cc g N : Nat} {ok ok' okp S : Nat → Prop} {w w0 w1 W W1 : World} {A A' : Option Addr} {u v v1 : Value} {xs : List α} {xs' : List β} {d' : Kd β} {x : α} {c : List Value}
theorem F_now (h : F d W ok A n xs) : d.C W A n xs := Foot.now h
theorem F_mono (h : F d W ok A n xs) (hok : ∀ k, ok k → ok' k) : F d W ok' A n xs := Foot.mono h hok
theorem F_bound (h : F d W ok A n xs) : F d W (fun k => ok k ∧ k < W.heap.size) A n xs := Foot.bound h
theorem F_step (h : F d W ok A n xs) (hm : ∀ k, ok k → k < W.heap.size → W1.heap[k]? = W.heap[k]?) : F d W1 ok A n xs := Foot.step h hm
theorem F_below (h : F d W ok A n xs) (hb : Below W.heap.size W W1) : F d W1 ok A n xs := F_step h (fun k _ hlt => hb.block k hlt)
theorem F_alloc (h : F d W ok A n xs) (o : Obj) : F d (W.alloc o) ok A n xs := F_below h (below_alloc (Below.refl _ _) o)
theorem F_far (h : F d W ok A n xs) {p : Addr} (hok : ∀ k, ok k → k ≠ p.block) (u : Value) : F d (W.setCell p u) ok A n xs := F_step h (fun k hk _ => Below.heap_setCell W p u k (hok k hk))
theorem F_kept (h : F d W ok A n xs) (hk : Kept W W1 S) (hok : ∀ k, ok k → ¬ S k) : F d W1 ok A n xs := F_step h (fun k ho hlt => hk.2 k hlt (hok k ho))
theorem C_F (hd : Heap d) (h : d.C w A n xs) : F d w (fun k => k < w.heap.size) A n xs := fun _ hW => hd.C (fun k hlt => hW k hlt hlt) h
theorem R_F (h : d.R e W base ok (.slice A n cc) xs) : F d W ok A n xs := fun W' hW => by
 have h2 := R_reads' (R_step h hW)
 rw [h2.1]
 exact h2.2.2
theorem FK_now (h : FK d W ok x c) : d.K W x c := Foot.now h
theorem FK_mono (h : FK d W ok x c) (hok : ∀ k, ok k → ok' k) : FK d W ok' x c := Foot.mono h hok
theorem FK_bound (h : FK d W ok x c) : FK d W (fun k => ok k ∧ k < W.heap.size) x c := Foot.bound h
theorem FK_step (h : FK d W ok x c) (hm : ∀ k, ok k → k < W.heap.size → W1.heap[k]? = W.heap[k]?) : FK d W1 ok x c := Foot.step h hm
theorem emptied (W : World) (g : Nat) : ∃ W' : World, (∀ k, k ≠ g → W'.heap[k]? = W.heap[k]?) ∧ ∀ a : Addr, a.block = g → W'.cell? a = none := by
 refine ⟨{ W with heap := W.heap.setIfInBounds g (.cells #[] 0) }, fun k hk => by simp [Ne.symm hk], fun a ha => ?_⟩
 subst ha
 by_cases hlt : a.block < W.heap.size
 ·simp [World.cell?, hlt]
 ·simp [World.cell?, hlt]
end
end Kd
end Go.Proofs.YtodbnnfiadcbaaaW.PrintWords
end
section
namespace Go.Proofs.YtodbnnfiadcbaaaW.PrintWords
open Go.RowKit
namespace Kd
section
variable {α : Type} {d : Kd α} {e base n cc g : Nat} {ok ok' okp S : Nat → Prop} {w w1 W W1 : World} {A : Option Addr} {u v v1 : Value} {xs : List α} {x : α} {c : List Value}
def N {α : Type} (d : Kd α) (e : Nat) (w : World) (base : Nat) (ok : Nat → Prop) (v : Value) (xs : List α) : Prop :=
 (∀ k, v.ownBlock = some k → ok k) ∧ ∃ rows : List (List Value), rows.length = xs.length ∧ (raw d.sz).R e w base (fun k => some k = v.ownBlock) v rows ∧ ∀ (j : Nat) (x : α) (c : List Value), xs[j]? = some x → rows[j]? = some c → FK d w (fun k => ok k ∧ some k ≠ v.ownBlock) x c
end
end Kd
end Go.Proofs.YtodbnnfiadcbaaaW.PrintWords
end
section
namespace Go.Proofs.YtodbnnfiadcbaaaW.PrintWords
open Go.RowKit
namespace Kd
section
variable {α : Type} {d : Kd α} {W : World} {g n : Nat} {S ok : Nat → Prop} {A : Option Addr} {ad : Addr} {xs : List α}
theorem C_not_empty (h : d.C W (some ad) n xs) (hn : 0 < n) (hs : 0 < d.sz) : W.cell? ad ≠ none := by
 obtain ⟨ad', he, hc⟩ := h.1.2.2 hn
 injection he with he
 subst he
 obtain ⟨c, hcl, _, hcell⟩ := hc 0 _ (List.getElem?_eq_getElem (by rw [h.1.1]; exact hn))
 have h1 := hcell 0 _ (List.getElem?_eq_getElem (by omega))
 rw [Nat.zero_mul, Nat.zero_add, Addr.add_zero'] at h1
 rw [h1]
 exact Option.some_ne_none _
end
end Kd
end Go.Proofs.YtodbnnfiadcbaaaW.PrintWords
end
section
namespace Go.Proofs.YtodbnnfiadcbaaaW.PrintWords
open Go.RowKit
section
variable {P : Program} {d : Nat} {xs ys : Array Value} {f : Field} {fs : List Field} {a b : Value} {r s : Bool} {w : World}
theorem eqf_last (hn : (f.name == "_") = false) (ha : (part f.type xs f.offset).run P w = .ok a w) (hb : (part f.type ys f.offset).run P w = .ok b w) (he : (Op.equalIn d f.type a b).run P w = .ok r w) : (Op.eqFields d xs ys [f]).run P w = .ok r w := by
 have hn' : f.name ≠ "_" := by simpa using hn
 simp only [Op.eqFields, if_pos hn', Sem.run_bind, ha, hb, he, Result.andThen_ok]
 cases r <;> simp
theorem eqf_cons (hn : (f.name == "_") = false) (ha : (part f.type xs f.offset).run P w = .ok a w) (hb : (part f.type ys f.offset).run P w = .ok b w) (he : (Op.equalIn d f.type a b).run P w = .ok r w) (hr : (Op.eqFields d xs ys fs).run P w = .ok s w) : (Op.eqFields d xs ys (f :: fs)).run P w = .ok (r && s) w := by
 have hn' : f.name ≠ "_" := by simpa using hn
 rw [Op.eqFields]
 simp only [if_pos hn', Sem.run_bind, ha, hb, he, Result.andThen_ok]
 cases r
 ·simp
 ·simpa using hr
theorem eqA_of {t : TypeId} {fs : Array Field} (hu : P.underlying t = some (.struct fs)) (hp : P.stoodInHeld t = false) (h : (Op.eqFields d xs ys fs.toList).run P w = .ok r w) : (Op.equalIn (d + 1) t (.agg xs) (.agg ys)).run P w = .ok r w := by
 have hf : P.fieldsOf t = fs := by simp [Program.fieldsOf, hu]
 rw [run_equalIn_struct (P := P) w d t xs ys (by rw [hf]; exact hu) hp, hf]
 exact h
end
end Go.Proofs.YtodbnnfiadcbaaaW.PrintWords
end
section
namespace Go.Proofs.YtodbnnfiadcbaaaW.PrintWords
theorem Reps.one {α : Type} {R : α → List Value → Prop} {ps : List α} {cs : List Value} {p : α} {v : Value} (hp : R p [v]) (h : Reps R 1 ps cs) : Reps R 1 (p :: ps) (v :: cs) := by
 refine ⟨by simp [h.1], fun j q hq => ?_⟩
 cases j with
 | zero =>
  simp only [List.getElem?_cons_zero, Option.some.injEq] at hq
  subst hq
  simpa using hp
 | succ j =>
  simp only [List.getElem?_cons_succ] at hq
  have h1 := h.2 j q hq
  simpa [Nat.mul_one] using h1
theorem Reps.front {α : Type} {R : α → List Value → Prop} {size : Nat} {ps : List α} {cs c all : List Value} {p : α} (hp : R p c) (hc : c.length = size) (h : Reps R size ps cs) (ha : c ++ cs = all) : Reps R size (p :: ps) all := by
 subst ha
 refine ⟨by rw [List.length_append, hc, h.1, List.length_cons, Nat.succ_mul, Nat.add_comm], fun j q hq => ?_⟩
 cases j with
 | zero =>
  simp only [List.getElem?_cons_zero, Option.some.injEq] at hq
  subst hq
  rw [Nat.zero_mul, List.drop_zero, List.take_append_of_le_length (by omega), List.take_of_length_le (by omega)]
  exact hp
 | succ j =>
  simp only [List.getElem?_cons_succ] at hq
  have h1 := h.2 j q hq
  rw [Nat.succ_mul, List.drop_append, List.drop_of_length_le (by rw [hc]; exact Nat.le_add_left _ _), List.nil_append, hc, Nat.add_sub_cancel]
  exact h1
theorem Reps.c2 {α : Type} {R : α → List Value → Prop} {ps : List α} {cs : List Value} {p : α} {va vb : Value} (hp : R p [va, vb]) (h : Reps R 2 ps cs) : Reps R 2 (p :: ps) (va :: vb :: cs) := Reps.front hp rfl h rfl
theorem Reps.c3 {α : Type} {R : α → List Value → Prop} {ps : List α} {cs : List Value} {p : α} {va vb vc : Value} (hp : R p [va, vb, vc]) (h : Reps R 3 ps cs) : Reps R 3 (p :: ps) (va :: vb :: vc :: cs) := Reps.front hp rfl h rfl
theorem Reps.c4 {α : Type} {R : α → List Value → Prop} {ps : List α} {cs : List Value} {p : α} {va vb vc vd : Value} (hp : R p [va, vb, vc, vd]) (h : Reps R 4 ps cs) : Reps R 4 (p :: ps) (va :: vb :: vc :: vd :: cs) := Reps.front hp rfl h rfl
theorem Reps.c5 {α : Type} {R : α → List Value → Prop} {ps : List α} {cs : List Value} {p : α} {va vb vc vd ve : Value} (hp : R p [va, vb, vc, vd, ve]) (h : Reps R 5 ps cs) : Reps R 5 (p :: ps) (va :: vb :: vc :: vd :: ve :: cs) := Reps.front hp rfl h rfl
theorem Reps.c6 {α : Type} {R : α → List Value → Prop} {ps : List α} {cs : List Value} {p : α} {va vb vc vd ve vf : Value} (hp : R p [va, vb, vc, vd, ve, vf]) (h : Reps R 6 ps cs) : Reps R 6 (p :: ps) (va :: vb :: vc :: vd :: ve :: vf :: cs) := Reps.front hp rfl h rfl
theorem Reps.c8 {α : Type} {R : α → List Value → Prop} {ps : List α} {cs : List Value} {p : α} {va vb vc vd ve vf vg vh : Value} (hp : R p [va, vb, vc, vd, ve, vf, vg, vh]) (h : Reps R 8 ps cs) : Reps R 8 (p :: ps) (va :: vb :: vc :: vd :: ve :: vf :: vg :: vh :: cs) := Reps.front hp rfl h rfl
end Go.Proofs.YtodbnnfiadcbaaaW.PrintWords
end
section
namespace Go.Proofs.YtodbnnfiadcbaaaW.PrintWords
open Go.RowKit
section
variable {P : Program} {ops : Array Oper} {rest : List Oper} {o : Oper} {a : Act} {Q : Exit → Act → World → Prop} {W : World}
theorem gate_callee {f : FuncId} {as_ : Array Operand} {ts : Array TypeId} (_ho : o.op = .call { callee := .value (.func f), args := as_, argTypes := ts }) (h : wpList P ops Q (o :: rest) a W) : wpList P ops Q (o :: rest) a W := h
end
end Go.Proofs.YtodbnnfiadcbaaaW.PrintWords
end
section
namespace Go.Proofs.YtodbnnfiadcbaaaW.PrintWords
open Go.ChangeShapes Go.WideShapes
theorem sized_ints {H : Type} {enc : TypeId × Value → H} {P : Program} {W : World} {base : Nat} {spare : Nat → Bool} {held : Bool} {t e : TypeId} {k : IntKind} {a : Option Addr} {len cap : Nat} {d : DataW H} {ps : List MemPlace} {ts : List TypeId} {ds : List (DataW H)} {j : Nat}
  (hsz : (DataW.weightsEach P ts ds).all (· ≤ reachBytes) = true) (ht : ts[j]? = some t) (hd : ds[j]? = some d) (hu : P.underlying t = some (.slice e)) (he : P.underlying e = some (.int k)) (hc : P.cellsOf e = 1) {B : Nat} (hB : P.bytesOf e = B)
  (h : DataW.Trod enc P W base spare held t (.slice a len cap) d ps) : len * B ≤ 140737488351232 := by
 obtain ⟨fuel, hf⟩ := h
 rcases open_ints hu he hc hf with ⟨hcs, _⟩ | ⟨x, l, c, zs, hcs, _, hl, _, hz, hx, _, _⟩
 ·simp [Value.cells] at hcs
  obtain ⟨rfl, rfl, rfl⟩ := hcs
  simp
 ·simp [Value.cells] at hcs
  obtain ⟨rfl, rfl, rfl⟩ := hcs
  obtain ⟨hx, _⟩ := Prod.mk.inj hx
  subst hx
  have z := sized_slice hsz ht hd hu
  rw [hB] at z
  have hl2 : len ≤ zs.length := by
   rw [hz]
   split
   ·exact hl
   ·exact Nat.le_refl _
  have h1 : (lits (H := H) k (zs.take len)).length + (lits (H := H) k (zs.drop len)).length = zs.length := by
   simp [lits]
   omega
  rw [h1] at z
  exact Nat.le_trans (Nat.mul_le_mul_right _ hl2) z
end Go.Proofs.YtodbnnfiadcbaaaW.PrintWords
end

namespace Go.Proofs.YtodbnnfiadcbaaaH
open Go.RowKit Go.Proofs.YtodbnnfiadcbaaaW.PrintWords Go.Proofs.YtodbnnfiadcbaaaW.PrintLast Go.Proofs.YtodbnnfiadcbaaaW.PrintMore
theorem M0 {p : Prop} (h : p) : Aside0 p := ⟨h⟩
end Go.Proofs.YtodbnnfiadcbaaaH
namespace Go.Proofs.Ytodbnnfiadcbaaa.P
open Go.RowKit Go.Proofs.YtodbnnfiadcbaaaW.PrintWords Go.Proofs.YtodbnnfiadcbaaaW.PrintLast Go.Proofs.YtodbnnfiadcbaaaW.PrintMore
set_option linter.unusedVariables false
set_option linter.unusedSimpArgs false



theorem info4 : (Try.prog.info? 4).map (fun i => (i.zero, i.size, i.bytes)) = some (some (.bool false), 1, 1) := by kernel_rfl
theorem info28 : (Try.prog.info? 28).map (fun i => (i.zero, i.size, i.bytes)) = some (some (.agg #[(.int .i64 0), (.int .i64 0), (.int .i64 0), (.slice none 0 0)]), 4, 48) := by kernel_rfl
theorem info95 : (Try.prog.info? 95).map (fun i => (i.zero, i.size, i.bytes)) = some (some (.slice none 0 0), 1, 24) := by kernel_rfl
-- the values' own types
/-! #### struct type 56 -/
def k56 : Kd S56 := Kd.iso (Kd.pair Kd.string (Kd.int .i64)) (fun x : S56 => (x.f0, x.f1))
/-! #### struct type 28, nested in itself -/
def F28 (d : Kd S28) : Kd S28 := Kd.iso (Kd.pair (Kd.int .i64) (Kd.pair (Kd.int .i64) (Kd.pair (Kd.int .i64) (Kd.slice 28 d)))) (fun x : S28 => (x.f0, x.f1, x.f2, x.f3))
theorem mono28 : Kd.Mono F28 := Kd.mono_iso _ (Kd.mono_pair (Kd.mono_const _) (Kd.mono_pair (Kd.mono_const _) (Kd.mono_pair (Kd.mono_const _) (Kd.mono_slice 28 Kd.mono_id))))
theorem sub28 : Kd.Sub F28 [28] := Kd.sub_iso _ (Kd.sub_pair (Kd.sub_const _ (by decide)) (Kd.sub_pair (Kd.sub_const _ (by decide)) (Kd.sub_pair (Kd.sub_const _ (by decide)) (Kd.sub_slice 28 (by decide) Kd.sub_id))))
theorem sz28 : ∀ n, (Kd.upto F28 4 [28] n).sz = 4 := Kd.upto_sz (fun _ => rfl)
def k28 : Kd S28 := Kd.fix F28 4 [28] sz28 (Kd.upto_E sub28)
theorem k28_heap : Kd.Heap k28 := Kd.heap_fix (fun _ h_ => Kd.heap_iso _ (Kd.heap_pair (Kd.heap_int .i64) (Kd.heap_pair (Kd.heap_int .i64) (Kd.heap_pair (Kd.heap_int .i64) (Kd.heap_slice 28 h_)))))
theorem k28_open {w : World} {x : S28} {cs : List Value} (h : k28.K w x cs) : ∃ A3 c3, cs = [.int .i64 x.f0, .int .i64 x.f1, .int .i64 x.f2, .slice A3 x.f3.length c3] ∧ x.f3.length ≤ c3 ∧ k28.C w A3 x.f3.length x.f3 := by
 obtain ⟨n, h⟩ := h
 cases n with
 | zero => exact h.elim
 | succ n =>
  obtain ⟨_, _, rfl, rfl, ⟨_, _, rfl, rfl, ⟨_, _, rfl, rfl, ⟨A3, c3, rfl, l3, g3⟩⟩⟩⟩ := h
  exact ⟨A3, c3, rfl, l3, Kd.fix_C g3⟩
theorem k28_mk (w : World) (x : S28) {A3 : Option Addr} {c3 : Nat} (l3 : x.f3.length ≤ c3) (g3 : k28.C w A3 x.f3.length x.f3) : k28.K w x [.int .i64 x.f0, .int .i64 x.f1, .int .i64 x.f2, .slice A3 x.f3.length c3] := by
 obtain ⟨n3, q3⟩ := Kd.fix_C_back mono28 g3
 have r3 := Kd.upto_C_le mono28 sz28 (show n3 ≤ n3 by omega) q3
 exact ⟨n3 + 1, ⟨[.int .i64 x.f0], [.int .i64 x.f1, .int .i64 x.f2, .slice A3 x.f3.length c3], rfl, rfl, ⟨[.int .i64 x.f1], [.int .i64 x.f2, .slice A3 x.f3.length c3], rfl, rfl, ⟨[.int .i64 x.f2], [.slice A3 x.f3.length c3], rfl, rfl, ⟨A3, c3, rfl, l3, r3⟩⟩⟩⟩⟩
theorem k28_openF {W : World} {ok : Nat → Prop} {x : S28} {cs : List Value} (h : Kd.FK k28 W ok x cs) : ∃ A3 c3, cs = [.int .i64 x.f0, .int .i64 x.f1, .int .i64 x.f2, .slice A3 x.f3.length c3] ∧ x.f3.length ≤ c3 ∧ Kd.F k28 W ok A3 x.f3.length x.f3 := by
 obtain ⟨A3, c3, rfl, l3, _⟩ := k28_open (Kd.FK_now h)
 exact ⟨A3, c3, rfl, l3, (fun W' hW => by obtain ⟨A3_, c3_, he, l3_, g3_⟩ := k28_open (h W' hW); injection (Option.some.inj (show some (Value.slice A3 x.f3.length c3) = some (Value.slice A3_ x.f3.length c3_) from congrArg (fun l => l[3]?) he)) with ha_ _ _; rw [ha_]; exact g3_)⟩
theorem k28_mkF (W : World) (ok : Nat → Prop) (x : S28) {A3 : Option Addr} {c3 : Nat} (l3 : x.f3.length ≤ c3) (g3 : Kd.F k28 W ok A3 x.f3.length x.f3) : Kd.FK k28 W ok x [.int .i64 x.f0, .int .i64 x.f1, .int .i64 x.f2, .slice A3 x.f3.length c3] := fun W2 hW => k28_mk W2 x l3 (g3 W2 hW)
end Go.Proofs.Ytodbnnfiadcbaaa.P
namespace Go.Proofs.Ytodbnnfiadcbaaa.P
open Go.RowKit Go.Proofs.YtodbnnfiadcbaaaW.PrintWords Go.Proofs.YtodbnnfiadcbaaaW.PrintLast Go.Proofs.YtodbnnfiadcbaaaW.PrintMore
set_option linter.unusedVariables false
set_option linter.unusedSimpArgs false
def keyV (p : Addr) (n : Int) : Value := .agg #[.pointer (some p), .int .i64 n]
def PlainAt (W : World) (p : Addr) : Prop := ∃ cells t, W.heap[p.block]? = some (.cells cells t (0, 0))
theorem eq_ptr (d : Nat) (w : World) {p q : Addr} (hp : PlainAt w p) (hq : PlainAt w q) :
  (Op.equalIn (d + 1) 97 (.pointer (some p)) (.pointer (some q))).run Try.prog w = .ok (decide (p = q)) w := by
 have hu := Try.underlying97
 obtain ⟨j, hi, _, hsz, _⟩ := info_parts info28
 by_cases h : p = q
 ·subst h
  simp [Op.equalIn, run_underlying hu, sizeOf, typeInfo, hi, hsz, run_sameAddr_same]
 ·obtain ⟨cp, tp, hp⟩ := hp
  obtain ⟨cq, tq, hq⟩ := hq
  simp [Op.equalIn, run_underlying hu, sizeOf, typeInfo, hi, hsz, run_sameAddr_other w h hp hq, h]
theorem eq_key (d : Nat) (w : World) {p q : Addr} (m n : Int) (hp : PlainAt w p) (hq : PlainAt w q) :
  (Op.equalIn (d + 2) 115 (keyV p m) (keyV q n)).run Try.prog w = .ok (decide (p = q) && (m == n)) w := by
 refine eqA_of Try.underlying115 (by kernel_rfl) ?_
 refine eqf_cons (by rfl) (by go_simp) (by go_simp) (eq_ptr d w hp hq) ?_
 exact eqf_last (by rfl) (by go_simp; rfl) (by go_simp; rfl) (by go_simp)
theorem check_key (em : Bool) (w : World) (p : Addr) (n : Int) : (Instr.checkKey em 10000 115 (keyV p n)).run Try.prog w = .ok () w := by
 have h1 : ∀ (d : Nat) , (Instr.checkKey em (d + 1) 97 (.pointer (some p))).run Try.prog w = .ok () w := fun d => by simp [Instr.checkKey, run_underlying Try.underlying97]
 have h2 : ∀ (d : Nat) , (Instr.checkKey em (d + 1) 3 (.int .i64 n)).run Try.prog w = .ok () w := fun d => by simp [Instr.checkKey, run_underlying Try.underlying3]
 have p1 : (part 97 #[.pointer (some p), .int .i64 n] 0).run Try.prog w = .ok (.pointer (some p)) w := by go_simp
 have p2 : (part 3 #[.pointer (some p), .int .i64 n] 1).run Try.prog w = .ok (.int .i64 n) w := by go_simp
 unfold keyV
 rw [show (10000 : Nat) = 9998 + 1 + 1 from rfl, Instr.checkKey]
 simp only [Sem.run_bind, run_underlying Try.underlying115, Result.andThen_ok]
 simp [p1, p2, h1, h2]
def KeysOk (W : World) (es : List MapEntry) : Prop := ∀ e ∈ es, ∃ (p : Addr) (n : Int), e.key = keyV p n ∧ PlainAt W p
theorem find_asking (w : World) {p : Addr} (n : Int) (hp : PlainAt w p) : ∀ (es : List MapEntry) (i : Nat), KeysOk w es →
  (∃ r : Option (Nat × Value), (Instr.findAsking 115 (keyV p n) es i).run Try.prog w = .ok r w ∧ ∀ j v, r = some (j, v) → ∃ e, i ≤ j ∧ es[j - i]? = some e ∧ e.key = keyV p n ∧ e.val = v)
 | [], i, _ => ⟨none, by simp [Instr.findAsking], fun _ _ h => by cases h⟩
 | e :: es, i, hk => by
  obtain ⟨q, m, he, hq⟩ := hk e (by simp)
  have hrun := eq_key 9998 w n m hp hq
  have heq : (Op.equal 115 (keyV p n) e.key).run Try.prog w = .ok (decide (p = q) && (n == m)) w := by rw [he]; exact hrun
  by_cases hb : (decide (p = q) && (n == m)) = true
  ·refine ⟨some (i, e.val), ?_, ?_⟩
   ·rw [Instr.findAsking]; simp only [Sem.run_bind, heq, Result.andThen_ok, hb, if_true]; simp
   ·intro j v h
    injection h with h
    injection h with h1 h2
    subst h1
    simp only [Bool.and_eq_true, decide_eq_true_eq, beq_iff_eq] at hb
    obtain ⟨rfl, rfl⟩ := hb
    exact ⟨e, Nat.le_refl _, by simp, he, h2⟩
  ·obtain ⟨r, hr, hs⟩ := find_asking w n hp es (i + 1) (fun x hx => hk x (by simp [hx]))
   refine ⟨r, ?_, ?_⟩
   ·rw [Instr.findAsking]; simp only [Sem.run_bind, heq, Result.andThen_ok, hb]; simpa using hr
   ·intro j v h
    obtain ⟨e', h1, h2, h3, h4⟩ := hs j v h
    refine ⟨e', by omega, ?_, h3, h4⟩
    rw [show j - i = (j - (i + 1)) + 1 by omega, List.getElem?_cons_succ]
    exact h2
theorem find_key (w : World) {p : Addr} (n : Int) (hp : PlainAt w p) (es : List MapEntry) (hk : KeysOk w es) :
  ∃ r : Option (Nat × Value), (Instr.findKey 115 (keyV p n) es).run Try.prog w = .ok r w ∧ ∀ j v, r = some (j, v) → ∃ e, es[j]? = some e ∧ e.key = keyV p n ∧ e.val = v := by
 obtain ⟨r, hr, hs⟩ := find_asking w n hp es 0 hk
 cases es with
 | nil => exact ⟨none, by simp [Instr.findKey, run_underlying Try.underlying115, Instr.findNow], fun _ _ h => by cases h⟩
 | cons e es =>
  refine ⟨r, ?_, fun j v h => ?_⟩
  ·simp only [Instr.findKey, Sem.run_bind, run_underlying Try.underlying115, Result.andThen_ok]
   have : Instr.findNow (TypeDesc.struct #[{ name := "node", type := 97, offset := 0, embedded := false, tag := "", pkgPath := "canopy/expr", byteOffset := 0 }, { name := "at", type := 3, offset := 1, embedded := false, tag := "", pkgPath := "canopy/expr", byteOffset := 8 }]) (keyV p n) (e :: es) 0 = none := by rfl
   rw [this]
   exact hr
  ·obtain ⟨e', _, h2, h3, h4⟩ := hs j v h
   exact ⟨e', by simpa using h2, h3, h4⟩
/-- 'm[k]' with 'ok': what is found is an entry's. -/
theorem lookup_run (w : World) {p : Addr} (n : Int) (hp : PlainAt w p) {bm clk : Nat} {es : Array MapEntry} (hb : w.heap[bm]? = some (.map es clk)) (hk : KeysOk w es.toList) :
  ∃ (v : Value) (b : Bool), (Instr.lookup 92 (.map (some bm)) (keyV p n) true).run Try.prog w = .ok (.tuple #[v, .bool b]) w ∧ (b = true → ∃ e ∈ es.toList, e.key = keyV p n ∧ e.val = v) := by
 obtain ⟨r, hr, hs⟩ := find_key w n hp es.toList hk
 have hz : (zeroValue 95).run Try.prog w = .ok (.slice none 0 0) w := by
  obtain ⟨i, hi, hz, _, _⟩ := info_parts info95
  simp [zeroValue, typeInfo, hi, hz]
 cases r with
 | none => exact ⟨.slice none 0 0, false, by simp [Instr.lookup, run_underlying Try.underlying92, MapKept.run_getObj_map hb, MapKept.run_setObj_map _ hb, Result.andThen, check_key, hr, hz], fun h => by cases h⟩
 | some z =>
  obtain ⟨j, v⟩ := z
  obtain ⟨e, h2, h3, h4⟩ := hs j v rfl
  exact ⟨v, true, by simp [Instr.lookup, run_underlying Try.underlying92, MapKept.run_getObj_map hb, MapKept.run_setObj_map _ hb, Result.andThen, check_key, hr], fun _ => ⟨e, List.mem_of_getElem? h2, h3, h4⟩⟩
theorem key_stays (w : World) (p : Addr) (n : Int) : (Instr.keyThatStays (keyV p n) (keyV p n)).run Try.prog w = .ok (keyV p n) w := by
 have : Instr.sameBits 10000 (keyV p n) (keyV p n) = true := by simp [keyV, Instr.sameBits]
 simp [Instr.keyThatStays, this]
/-- 'm[k] = v': one entry more, or an entry with this value. -/
theorem update_run (w : World) {p : Addr} (n : Int) (v : Value) (hp : PlainAt w p) {bm clk : Nat} {es : Array MapEntry} (hb : w.heap[bm]? = some (.map es clk)) (hk : KeysOk w es.toList) :
  ∃ es' clk', (Instr.mapUpdate 92 (.map (some bm)) (keyV p n) v).run Try.prog w = .ok () { w with heap := w.heap.setIfInBounds bm (.map es' clk') } ∧ ∀ e ∈ es'.toList, e ∈ es.toList ∨ e.key = keyV p n ∧ e.val = v := by
 obtain ⟨r, hr, hs⟩ := find_key w n hp es.toList hk
 cases r with
 | none =>
  refine ⟨es.push { key := keyV p n, val := v, born := clk }, clk + 1, ?_, ?_⟩
  ·simp [Instr.mapUpdate, run_underlying Try.underlying92, MapKept.run_getObj_map hb, MapKept.run_setObj_map _ hb, Result.andThen, check_key, hr]
  ·intro e he
   simp at he
   rcases he with he | rfl
   ·exact .inl (by simpa using he)
   ·exact .inr ⟨rfl, rfl⟩
 | some z =>
  obtain ⟨j, u⟩ := z
  obtain ⟨e0, h2, h3, h4⟩ := hs j u rfl
  refine ⟨es.modify j fun e => { e with key := keyV p n, val := v }, clk, ?_, ?_⟩
  ·have h5 : es[j]? = some e0 := by simpa using h2
   simp [Instr.mapUpdate, run_underlying Try.underlying92, MapKept.run_getObj_map hb, MapKept.run_setObj_map _ hb, Result.andThen, check_key, hr, h5, h3, key_stays]
  ·intro e he
   obtain ⟨i, hi⟩ := List.getElem?_of_mem he
   rw [Array.getElem?_toList, Array.getElem?_modify] at hi
   split at hi
   ·cases hq : es[i]? with
    | none => rw [hq] at hi; cases hi
    | some x =>
     rw [hq] at hi
     injection hi with hi
     subst hi
     exact .inr ⟨rfl, rfl⟩
   ·exact .inl (List.mem_of_getElem? (by rw [Array.getElem?_toList]; exact hi))
end Go.Proofs.Ytodbnnfiadcbaaa.P
namespace Go.Proofs.Ytodbnnfiadcbaaa.P
open Go.RowKit Go.Proofs.YtodbnnfiadcbaaaW.PrintWords Go.Proofs.YtodbnnfiadcbaaaW.PrintLast Go.Proofs.YtodbnnfiadcbaaaW.PrintMore
/-! #### numbers, told without omega in a walk -/
theorem tr_lt {j n : Nat} (h : j < n) : ((j : Int) < (n : Int)) = True := eq_true (Int.ofNat_lt.2 h)
theorem tr_ge (j : Nat) : (0 ≤ (j : Int)) = True := eq_true (Int.natCast_nonneg _)
theorem tr_dlt {j n : Nat} (h : j < n) : decide ((j : Int) < (n : Int)) = true := decide_eq_true (Int.ofNat_lt.2 h)
theorem fl_lt {j n : Nat} (h : ¬ j < n) : ((j : Int) < (n : Int)) = False := eq_false fun e => h (Int.ofNat_lt.1 e)
theorem fl_dlt {j n : Nat} (h : ¬ j < n) : decide ((j : Int) < (n : Int)) = false := decide_eq_false fun e => h (Int.ofNat_lt.1 e)
theorem tr_suc {j n : Nat} (h : j + 1 < n) : ((j : Int) + 1 < (n : Int)) = True := eq_true (by omega)
theorem tr_suc0 (j : Nat) : (0 ≤ (j : Int) + 1) = True := eq_true (by omega)
theorem toNat_suc (j : Nat) : ((j : Int) + 1).toNat = j + 1 := by omega
theorem pred_ex {g j n : Nat} (h : g + j = n) (hj : j < n) : ∃ k, g = k + 1 ∧ Aside0 (k + (j + 1) = n) := ⟨g - 1, by omega, ⟨by omega⟩⟩
theorem ne_one {n : Nat} (h : ¬ n = 1) : ((n : Int) == 1) = false := beq_eq_false_iff_ne.mpr (by omega)
end Go.Proofs.Ytodbnnfiadcbaaa.P
namespace Go.Proofs.Ytodbnnfiadcbaaa.P
open Go.RowKit Go.Proofs.YtodbnnfiadcbaaaW.PrintWords Go.Proofs.YtodbnnfiadcbaaaW.PrintLast Go.Proofs.YtodbnnfiadcbaaaW.PrintMore Go.Proofs.YtodbnnfiadcbaaaH
set_option linter.unusedVariables false
set_option linter.unusedSimpArgs false

/-! ### canopylaw1_within: function 29 -/
/-! ### canopylaw1_Syms: function 14 -/
/-! ### expr_shape: function 54 -/
/-! ### expr_of: function 55 -/
end Go.Proofs.Ytodbnnfiadcbaaa.P
namespace Go.Proofs.Ytodbnnfiadcbaaa.P
open Go.RowKit Go.Proofs.YtodbnnfiadcbaaaW.PrintWords Go.Proofs.YtodbnnfiadcbaaaW.PrintLast Go.Proofs.YtodbnnfiadcbaaaW.PrintMore
set_option linter.unusedVariables false
set_option linter.unusedSimpArgs false
/-! #### the plain function -/
/-! #### the state in memory -/
structure OvI (w0 W : World) (g : Nat) (A0 : Option Addr) (c0 : Nat) (l : List S56) (s : OvS) : Prop where
 blk : W.heap[g]? = some (.cells #[.slice A0 l.length c0, .int .i64 s.n, .bool s.deep, .bool s.kind, .bool s.name, .bool s.loose] 67 (0, 0))
 ge : w0.heap.size ≤ g
 row : Kd.C k56 w0 A0 l.length l
 cap : l.length ≤ c0
 below : Below w0.heap.size w0 W
structure OvJ (w0 w W : World) (g gb : Nat) (A0 : Option Addr) (c0 : Nat) (l : List S56) (s : OvS) (e : S28) (A3 : Option Addr) (c3 : Nat) : Prop where
 st : OvI w0 W g A0 c0 l s
 keep : KeepBut w W g none
 box : W.heap[gb]? = some (.cells #[.int .i64 e.f0, .int .i64 e.f1, .int .i64 e.f2, .slice A3 e.f3.length c3] 28 (0, 0))
 ne : g < gb
 old : w.heap.size ≤ gb
section
variable {w0 w W W1 : World} {g gb : Nat} {A0 : Option Addr} {c0 : Nat} {l : List S56} {s s' : OvS} {e : S28} {A3 : Option Addr} {c3 : Nat}
theorem OvI.lt (h : OvI w0 W g A0 c0 l s) : g < W.heap.size := (Array.getElem?_eq_some_iff.1 h.blk).1
theorem OvI.put (h : OvI w0 W g A0 c0 l s) (j : Nat) (u : Value) (hs : (#[.slice A0 l.length c0, .int .i64 s.n, .bool s.deep, .bool s.kind, .bool s.name, .bool s.loose] : Array Value).setIfInBounds j u = #[.slice A0 l.length c0, .int .i64 s'.n, .bool s'.deep, .bool s'.kind, .bool s'.name, .bool s'.loose]) :
  OvI w0 (W.setCell ⟨g, j, none⟩ u) g A0 c0 l s' :=
 ⟨by rw [← hs]; exact blk_set h.blk j u, h.ge, h.row, h.cap, below_set h.below h.ge⟩
theorem OvJ.put (h : OvJ w0 w W g gb A0 c0 l s e A3 c3) (j : Nat) (u : Value) (hs : (#[.slice A0 l.length c0, .int .i64 s.n, .bool s.deep, .bool s.kind, .bool s.name, .bool s.loose] : Array Value).setIfInBounds j u = #[.slice A0 l.length c0, .int .i64 s'.n, .bool s'.deep, .bool s'.kind, .bool s'.name, .bool s'.loose]) :
  OvJ w0 w (W.setCell ⟨g, j, none⟩ u) g gb A0 c0 l s' e A3 c3 :=
 ⟨h.st.put j u hs, KeepBut.set_ h.keep j u, blk_far h.box (p := ⟨g, j, none⟩) (by have := h.ne; show gb ≠ g; omega) u, h.ne, h.old⟩
theorem OvJ.call (h : OvJ w0 w W g gb A0 c0 l s e A3 c3) (hI : OvI w0 W1 g A0 c0 l s') (hk : KeepBut W W1 g none) : OvJ w0 w W1 g gb A0 c0 l s' e A3 c3 :=
 ⟨hI, KeepBut.trans h.keep hk (.inl rfl), KeepBut.blk hk h.box (by have := h.ne; omega) (by simp), h.ne, h.old⟩
end
end Go.Proofs.Ytodbnnfiadcbaaa.P
namespace Go.Proofs.Ytodbnnfiadcbaaa.P
open Go.RowKit Go.Proofs.YtodbnnfiadcbaaaW.PrintWords Go.Proofs.YtodbnnfiadcbaaaW.PrintLast Go.Proofs.YtodbnnfiadcbaaaW.PrintMore
set_option linter.unusedVariables false
set_option linter.unusedSimpArgs false

/-! ### expr_Check: function 17 -/
-- IMPORTS: Derived.Test.YtodbnnfiadcbaaaExprOver3
end Go.Proofs.Ytodbnnfiadcbaaa.P
namespace Go.Proofs.Ytodbnnfiadcbaaa.P
open Go.RowKit Go.Proofs.YtodbnnfiadcbaaaW.PrintWords Go.Proofs.YtodbnnfiadcbaaaW.PrintLast Go.Proofs.YtodbnnfiadcbaaaW.PrintMore Go.Proofs.YtodbnnfiadcbaaaH
set_option linter.unusedVariables false
set_option linter.unusedSimpArgs false

/-! ### expr_text: function 37 -/
/-! ### expr_name: function 38 -/
/-! ### strings_Join: function 57 -/
/-! ### expr_Text: functions 56, 39, 18, that call each other -/
/-! ### expr_part: function 56 -/
/-! ### expr_parts: function 39 -/
/-! ### expr_Text: function 18 -/
/-! ### strings_IndexByte: function 58 -/
/-! ### stringslite_HasPrefix: function 78 -/
/-! ### strings_HasPrefix: function 59 -/
/-! ### expr_letters: function 79 -/
/-! ### expr_named: function 60 -/
/-- A state of type 75 at block g of W; what its slices lead to came in by w0. -/
def IsS75 (w0 W : World) (g : Nat) (f0 : List (S56)) (f1 : ByteArray) (f2 : Int) (f3 : Int) (f4 : Int) (f5 : ByteArray) (f6 : Int) (f7 : Int) (f8 : Int) (f9 : Int) (f10 : Int) : Prop := ∃ A0 c0, W.heap[g]? = some (.cells #[.slice A0 f0.length c0, .string f1, .int .i64 f2, .int .i64 f3, .int .i64 f4, .string f5, .int .i64 f6, .int .u8 f7, .int .i64 f8, .int .i64 f9, .int .i64 f10] 75 (0, 0)) ∧ w0.heap.size ≤ g ∧ (Kd.C k56 w0 A0 f0.length f0) ∧ f0.length ≤ c0
theorem IsS75.grown {w0 W : World} {g : Nat} {f0 : List (S56)} {f1 : ByteArray} {f2 : Int} {f3 : Int} {f4 : Int} {f5 : ByteArray} {f6 : Int} {f7 : Int} {f8 : Int} {f9 : Int} {f10 : Int} {W1 : World} {row : Option Nat} (h : IsS75 w0 W g f0 f1 f2 f3 f4 f5 f6 f7 f8 f9 f10) (hw : W.grownBy W1 row) (hne : some g ≠ row) : IsS75 w0 W1 g f0 f1 f2 f3 f4 f5 f6 f7 f8 f9 f10 := by
 obtain ⟨A0, c0, hb, hg, hr0, hd0⟩ := h
 exact ⟨A0, c0, blk_grown hb hw hne, hg, hr0, hd0⟩
theorem IsS75.kept {w0 W : World} {g : Nat} {f0 : List (S56)} {f1 : ByteArray} {f2 : Int} {f3 : Int} {f4 : Int} {f5 : ByteArray} {f6 : Int} {f7 : Int} {f8 : Int} {f9 : Int} {f10 : Int} {W1 : World} {S : Nat → Prop} (h : IsS75 w0 W g f0 f1 f2 f3 f4 f5 f6 f7 f8 f9 f10) (hk : Kept W W1 S) (hne : ¬ S g) : IsS75 w0 W1 g f0 f1 f2 f3 f4 f5 f6 f7 f8 f9 f10 := by
 obtain ⟨A0, c0, hb, hg, hr0, hd0⟩ := h
 exact ⟨A0, c0, blk_kept hb hk hne, hg, hr0, hd0⟩
theorem IsS75.below {w0 W : World} {g : Nat} {f0 : List (S56)} {f1 : ByteArray} {f2 : Int} {f3 : Int} {f4 : Int} {f5 : ByteArray} {f6 : Int} {f7 : Int} {f8 : Int} {f9 : Int} {f10 : Int} {W1 : World} (h : IsS75 w0 W g f0 f1 f2 f3 f4 f5 f6 f7 f8 f9 f10) (hw : Below W.heap.size W W1) : IsS75 w0 W1 g f0 f1 f2 f3 f4 f5 f6 f7 f8 f9 f10 := h.grown (grown_of_below hw none) (by simp)
theorem IsS75.alloc {w0 W : World} {g : Nat} {f0 : List (S56)} {f1 : ByteArray} {f2 : Int} {f3 : Int} {f4 : Int} {f5 : ByteArray} {f6 : Int} {f7 : Int} {f8 : Int} {f9 : Int} {f10 : Int} (h : IsS75 w0 W g f0 f1 f2 f3 f4 f5 f6 f7 f8 f9 f10) (o : Obj) : IsS75 w0 (W.alloc o) g f0 f1 f2 f3 f4 f5 f6 f7 f8 f9 f10 := h.below (below_alloc (Below.refl _ _) o)
theorem IsS75.drewN {w0 W : World} {g : Nat} {f0 : List (S56)} {f1 : ByteArray} {f2 : Int} {f3 : Int} {f4 : Int} {f5 : ByteArray} {f6 : Int} {f7 : Int} {f8 : Int} {f9 : Int} {f10 : Int} (h : IsS75 w0 W g f0 f1 f2 f3 f4 f5 f6 f7 f8 f9 f10) (m : Nat) : IsS75 w0 (W.drewN m) g f0 f1 f2 f3 f4 f5 f6 f7 f8 f9 f10 := h
theorem IsS75.drew {w0 W : World} {g : Nat} {f0 : List (S56)} {f1 : ByteArray} {f2 : Int} {f3 : Int} {f4 : Int} {f5 : ByteArray} {f6 : Int} {f7 : Int} {f8 : Int} {f9 : Int} {f10 : Int} (h : IsS75 w0 W g f0 f1 f2 f3 f4 f5 f6 f7 f8 f9 f10) : IsS75 w0 W.drew g f0 f1 f2 f3 f4 f5 f6 f7 f8 f9 f10 := h
theorem IsS75.at_ {w0 W : World} {g : Nat} {f0 : List (S56)} {f1 : ByteArray} {f2 : Int} {f3 : Int} {f4 : Int} {f5 : ByteArray} {f6 : Int} {f7 : Int} {f8 : Int} {f9 : Int} {f10 : Int} {w' : World} {m : Nat} (hq : W.drewN m = w') (h : IsS75 w0 W g f0 f1 f2 f3 f4 f5 f6 f7 f8 f9 f10) : IsS75 w0 w' g f0 f1 f2 f3 f4 f5 f6 f7 f8 f9 f10 := by subst hq; exact IsS75.drewN h m
theorem IsS75.own_ne {w0 W : World} {g : Nat} {f0 : List (S56)} {f1 : ByteArray} {f2 : Int} {f3 : Int} {f4 : Int} {f5 : ByteArray} {f6 : Int} {f7 : Int} {f8 : Int} {f9 : Int} {f10 : Int} {α : Type} {d : Kd α} {e : Nat} {base : Nat} {ok : Nat → Prop} {v : Value} {xs : List α} (h : IsS75 w0 W g f0 f1 f2 f3 f4 f5 f6 f7 f8 f9 f10) (ho : d.R e W base ok v xs) (ht : e ≠ 75) : some g ≠ v.ownBlock := by
 obtain ⟨A0, c0, hb, hg, hr0, hd0⟩ := h
 exact Kd.R_ne ho hb ht
theorem IsS75.lt {w0 W : World} {g : Nat} {f0 : List (S56)} {f1 : ByteArray} {f2 : Int} {f3 : Int} {f4 : Int} {f5 : ByteArray} {f6 : Int} {f7 : Int} {f8 : Int} {f9 : Int} {f10 : Int} (h : IsS75 w0 W g f0 f1 f2 f3 f4 f5 f6 f7 f8 f9 f10) : g < W.heap.size := by
 obtain ⟨A0, c0, hb, hg, hr0, hd0⟩ := h
 exact blk_lt hb
theorem IsS75.ge {w0 W : World} {g : Nat} {f0 : List (S56)} {f1 : ByteArray} {f2 : Int} {f3 : Int} {f4 : Int} {f5 : ByteArray} {f6 : Int} {f7 : Int} {f8 : Int} {f9 : Int} {f10 : Int} (h : IsS75 w0 W g f0 f1 f2 f3 f4 f5 f6 f7 f8 f9 f10) : w0.heap.size ≤ g := by
 obtain ⟨A0, c0, hb, hg, hr0, hd0⟩ := h
 exact hg
/-! ### expr_parser_next: function 40 -/
end Go.Proofs.Ytodbnnfiadcbaaa.P

namespace Go.Proofs.Ytodbnnfiadcbaaa.P
open Go.RowKit Go.Proofs.YtodbnnfiadcbaaaW.PrintWords Go.Proofs.YtodbnnfiadcbaaaW.PrintLast Go.Proofs.YtodbnnfiadcbaaaW.PrintMore Go.Proofs.YtodbnnfiadcbaaaH
set_option linter.unusedVariables false
set_option linter.unusedSimpArgs false

/-! ### expr_several: function 63 -/
/-! ### expr_parser_is: function 62 -/
end Go.Proofs.Ytodbnnfiadcbaaa.P
namespace Go.Proofs.Ytodbnnfiadcbaaa.P
open Go.RowKit Go.Proofs.YtodbnnfiadcbaaaW.PrintWords Go.Proofs.YtodbnnfiadcbaaaW.PrintLast Go.Proofs.YtodbnnfiadcbaaaW.PrintMore Go.Proofs.YtodbnnfiadcbaaaH
set_option linter.unusedVariables false
set_option linter.unusedSimpArgs false

/-! ### expr_parser_wrong: function 42 -/
end Go.Proofs.Ytodbnnfiadcbaaa.P
namespace Go.Proofs.Ytodbnnfiadcbaaa.P
open Go.RowKit Go.Proofs.YtodbnnfiadcbaaaW.PrintWords Go.Proofs.YtodbnnfiadcbaaaW.PrintLast Go.Proofs.YtodbnnfiadcbaaaW.PrintMore Go.Proofs.YtodbnnfiadcbaaaH
set_option linter.unusedVariables false
set_option linter.unusedSimpArgs false

/-! ### expr_parser_sym: function 93 -/
end Go.Proofs.Ytodbnnfiadcbaaa.P
namespace Go.Proofs.Ytodbnnfiadcbaaa.P
open Go.RowKit Go.Proofs.YtodbnnfiadcbaaaW.PrintWords Go.Proofs.YtodbnnfiadcbaaaW.PrintLast Go.Proofs.YtodbnnfiadcbaaaW.PrintMore Go.Proofs.YtodbnnfiadcbaaaH
set_option linter.unusedVariables false
set_option linter.unusedSimpArgs false

/-! ### expr_parser_begins: function 81 -/
/-! ### expr_parser_or: functions 92, 86, 80, 61, 41, that call each other -/
end Go.Proofs.Ytodbnnfiadcbaaa.P
namespace Go.Proofs.Ytodbnnfiadcbaaa.P
open Go.RowKit Go.Proofs.YtodbnnfiadcbaaaW.PrintWords Go.Proofs.YtodbnnfiadcbaaaW.PrintLast Go.Proofs.YtodbnnfiadcbaaaW.PrintMore Go.Proofs.YtodbnnfiadcbaaaH
set_option linter.unusedVariables false
set_option linter.unusedSimpArgs false

/-! ### expr_parser_within: function 92 -/
/-! ### expr_parser_atom: function 86 -/
end Go.Proofs.Ytodbnnfiadcbaaa.P
namespace Go.Proofs.Ytodbnnfiadcbaaa.P
open Go.RowKit Go.Proofs.YtodbnnfiadcbaaaW.PrintWords Go.Proofs.YtodbnnfiadcbaaaW.PrintLast Go.Proofs.YtodbnnfiadcbaaaW.PrintMore Go.Proofs.YtodbnnfiadcbaaaH
set_option linter.unusedVariables false
set_option linter.unusedSimpArgs false

/-! ### expr_parser_rep: function 80 -/
end Go.Proofs.Ytodbnnfiadcbaaa.P
namespace Go.Proofs.Ytodbnnfiadcbaaa.P
open Go.RowKit Go.Proofs.YtodbnnfiadcbaaaW.PrintWords Go.Proofs.YtodbnnfiadcbaaaW.PrintLast Go.Proofs.YtodbnnfiadcbaaaW.PrintMore Go.Proofs.YtodbnnfiadcbaaaH
set_option linter.unusedVariables false
set_option linter.unusedSimpArgs false

/-! ### expr_parser_cat: function 61 -/
/-! ### expr_parser_or: function 41 -/
end Go.Proofs.Ytodbnnfiadcbaaa.P
namespace Go.Proofs.Ytodbnnfiadcbaaa.P
open Go.RowKit Go.Proofs.YtodbnnfiadcbaaaW.PrintWords Go.Proofs.YtodbnnfiadcbaaaW.PrintLast Go.Proofs.YtodbnnfiadcbaaaW.PrintMore Go.Proofs.YtodbnnfiadcbaaaH
set_option linter.unusedVariables false
set_option linter.unusedSimpArgs false

/-! ### expr_Parse: function 19 -/
end Go.Proofs.Ytodbnnfiadcbaaa.P

namespace Go.Proofs.Ytodbnnfiadcbaaa.P
open Go.RowKit Go.Proofs.YtodbnnfiadcbaaaW.PrintWords Go.Proofs.YtodbnnfiadcbaaaW.PrintLast Go.Proofs.YtodbnnfiadcbaaaW.PrintMore Go.Proofs.YtodbnnfiadcbaaaH
set_option linter.unusedVariables false
set_option linter.unusedSimpArgs false

/-! ### expr_join: function 70 -/
set_option maxHeartbeats 8000000 in
set_option maxRecDepth 100000 in
theorem expr_join.calls (k : Nat) (P0_ : Nat → Prop) (u9000_ : Value) (l0 : List Bool) (A1 : Option Addr) (c1 : Nat) (l1 : List Bool) (r : List Bool) (w0 w : World) (hB : Below w0.heap.size w0 w) (ho0 : Kd.R Kd.bool 4 w w0.heap.size P0_ u9000_ l0) (hr1 : ∀ W_, Kept w W_ (fun k_ => P0_ k_) → Kd.C Kd.bool W_ A1 l1.length l1) (hc1 : l1.length ≤ c1) (h : expr_join.f k l0 l1 = some r) :
  Calls Try.prog 70 #[u9000_, .slice A1 l1.length c1] w fun e w' => e = .returned (.tuple #[]) ∧ Kd.R Kd.bool 4 w' w0.heap.size (fun k_ => (P0_ k_ ∨ w.heap.size ≤ k_)) u9000_ r ∧ Below w0.heap.size w0 w' ∧ Kept w w' (fun k_ => P0_ k_) := by
 have HO0 := M0 (show Kd.R Kd.bool 4 w w0.heap.size (fun k_ => (P0_ k_ ∨ w.heap.size ≤ k_)) u9000_ l0 from Kd.R_mono ho0 (fun k_ hk => (.inl hk)))
 have HR1 := M0 hr1
 clear hr1 hc1
 have HK := M0 (Kept.refl w (fun k_ => P0_ k_))
 have HB := M0 hB
 clear hB
 have H : (expr_join.l0 k l0 l1 (l1.length : Int) 0) = some r := h
 clear h
 have H' := M0 H
 clear H
 go_enter Try.func70, Try.ntmps70
 go_wp2
 go_loopg [8] k (fun kq v8 w' => ∃ (x0_1 : List Bool) (x8_1 : Int), v8 = .int .i64 x8_1 ∧ Aside0 (expr_join.l0 kq x0_1 l1 (l1.length : Int) x8_1 = some r) ∧ Aside0 (kq ≤ k) ∧ Aside0 (Kd.R Kd.bool 4 w' w0.heap.size (fun k_ => (P0_ k_ ∨ w.heap.size ≤ k_)) u9000_ x0_1) ∧ Aside0 (Kept w w' (fun k_ => P0_ k_)) ∧ Aside0 (Below w0.heap.size w0 w'))
 case atStart => exact ⟨(l0), (0), (by rfl), H', ⟨Nat.le_refl _⟩, ⟨by exact HO0.out⟩, ⟨by with_reducible exact HK.out⟩, ⟨by with_reducible exact HB.out⟩⟩
 case round =>
  clear H'
  obtain ⟨x0_1, x8_1, rfl, HA, HK1, HO_0, HK, HB⟩ := hrel
  cases gk with
  | zero => exact absurd HA.out (by simp [expr_join.l0])
  | succ k1 =>
   have H := HA.out
   clear HA
   simp only [expr_join.l0] at H
   by_cases c3 : x8_1 < (l1.length : Int)
   ·rw [if_pos c3] at H
    have c3b0 := decide_eq_true c3
    clear c3
    by_cases c4 : 0 ≤ x8_1
    ·rw [if_pos c4] at H
     have c4b0 := decide_eq_true c4
     clear c4
     by_cases c5 : x8_1 < (l1.length : Int)
     ·rw [if_pos c5] at H
      have c5b0 := decide_eq_true c5
      clear c5
      by_cases c6 : x8_1 < (x0_1.length : Int)
      ·rw [if_pos c6] at H
       have c6b0 := decide_eq_true c6
       clear c6
       obtain ⟨bq7, hbq7⟩ : ∃ b_ : Bool, b_ = (rdOf false x0_1 x8_1) := ⟨_, rfl⟩
       replace H : (if bq7 = true then (expr_join.l0 k1 (x0_1.set (x8_1 : Int).toNat true) l1 (l1.length : Int) (wrap64 (x8_1 + 1))) else (expr_join.l0 k1 (x0_1.set (x8_1 : Int).toNat (rdOf false l1 x8_1)) l1 (l1.length : Int) (wrap64 (x8_1 + 1)))) = some r := by rw [← hbq7] at H; exact H
       have Nbq7 := M0 hbq7
       clear hbq7
       by_cases c8 : bq7 = true
       ·subst c8
        rw [if_pos rfl] at H
        obtain ⟨y706, hy706⟩ : ∃ y_ : List Bool, y_ = (x0_1.set (x8_1 : Int).toNat true) := ⟨_, rfl⟩
        replace H : (expr_join.l0 k1 y706 l1 (l1.length : Int) (wrap64 (x8_1 + 1))) = some r := by (rw [hy706]; with_reducible exact H)
        have Ny706 := M0 hy706
        clear hy706
        have H' := M0 H
        clear H
        have p704 : 0 ≤ (x8_1 : Int) := of_decide_eq_true (by (with_reducible assumption))
        have q704 : x8_1 < (l1.length : Int) := of_decide_eq_true (by (with_reducible assumption))
        obtain ⟨ad704, e704, hx704_0⟩ := Kd.at_bool (Kd.C_kept_now HR1.out HK.out) x8_1 p704 q704
        (skip)
        cases e704
        replace p704 := eq_true p704
        replace q704 := eq_true q704
        obtain ⟨Ao10, co10, eo10⟩ := Kd.R_slice HO_0.out
        subst eo10
        have p705 : 0 ≤ (x8_1 : Int) := of_decide_eq_true (by (with_reducible assumption))
        have q705 : x8_1 < (x0_1.length : Int) := of_decide_eq_true (by (with_reducible assumption))
        obtain ⟨ad705, e705, hx705_0⟩ := Kd.at_bool (Kd.R_reads' HO_0.out).2.2 x8_1 p705 q705
        (rw [← Nbq7.out] at hx705_0)
        cases e705
        clear p705
        replace q705 := eq_true q705
        have p9 : 0 ≤ (x8_1 : Int) := of_decide_eq_true (by (with_reducible assumption))
        have q9 : (x8_1 : Int) < ((x0_1.length : Int) : Int) := of_decide_eq_true (by (with_reducible assumption))
        obtain ⟨go9, co9, eo9, gb9, gl9, cl9, HG9⟩ := Kd.R_form HO_0.out (by omega)
        (cases eo9)
        have GB9 := M0 gb9
        clear gb9 gl9 HG9
        (simp only [add_plain] at hx705_0)
        obtain ⟨hx9_0, hf9_0⟩ := Kd.R_celln false HO_0.out (x8_1 : Int) p9 q9
        clear p9
        clear q9
        have HP11 := Kd.R_putg HO_0.out (x8_1 : Int) true
        go_wp2_with (((with_reducible refine gate_store (t := 4) (p := 22) rfl ?_); refine store_event (t := 4) (p := 22) (v := ?vo_w12) (w1 := (wr.setCell ⟨go9, (x8_1 : Int).toNat, none⟩ (.bool true))) ?hg ?ho ?hn ?hr ?_; (case ho => rfl); (case hg => rfl); (case hn => rfl); (case hr => (go_simp; done)); intro w12 hw; have hg : wr.grownBy w12 (some go9) := (by rw [hw]; exact HP11.2); have hp_ : Kd.R Kd.bool 4 w12 w0.heap.size (fun k_ => (P0_ k_ ∨ w.heap.size ≤ k_)) (.slice (some ⟨go9, 0, none⟩) x0_1.length co10) y706 := (by rw [hw, Ny706.out]; exact HP11.1); clear HP11; replace HB := M0 ((by rw [hw]; exact below_set (HB.out) GB9.out : Below w0.heap.size w0 w12)); replace HK := M0 (Kept.of_grown (S := (fun k_ => P0_ k_)) hg HK.out (fun k_ e_ => (HO_0.out.1 k_ e_))); replace HO_0 := M0 hp_; clear hg hw hp_))
        go_roundg k1
        case measure => have := HK1.out; omega
        case rel => exact ⟨(y706), (wrap64 (x8_1 + 1)), (by rfl), H', ⟨by have := HK1.out; omega⟩, ⟨by exact HO_0.out⟩, ⟨by with_reducible exact HK.out⟩, ⟨by with_reducible exact HB.out⟩⟩
       ·replace c8 := Bool.eq_false_iff.mpr c8
        subst c8
        rw [if_neg (show ¬ (false = true) by decide)] at H
        obtain ⟨y707, hy707⟩ : ∃ y_ : List Bool, y_ = (x0_1.set (x8_1 : Int).toNat (rdOf false l1 x8_1)) := ⟨_, rfl⟩
        replace H : (expr_join.l0 k1 y707 l1 (l1.length : Int) (wrap64 (x8_1 + 1))) = some r := by (rw [hy707]; with_reducible exact H)
        have Ny707 := M0 hy707
        clear hy707
        have H' := M0 H
        clear H
        have p704 : 0 ≤ (x8_1 : Int) := of_decide_eq_true (by (with_reducible assumption))
        have q704 : x8_1 < (l1.length : Int) := of_decide_eq_true (by (with_reducible assumption))
        obtain ⟨ad704, e704, hx704_0⟩ := Kd.at_bool (Kd.C_kept_now HR1.out HK.out) x8_1 p704 q704
        (skip)
        cases e704
        replace p704 := eq_true p704
        replace q704 := eq_true q704
        obtain ⟨Ao14, co14, eo14⟩ := Kd.R_slice HO_0.out
        subst eo14
        have p705 : 0 ≤ (x8_1 : Int) := of_decide_eq_true (by (with_reducible assumption))
        have q705 : x8_1 < (x0_1.length : Int) := of_decide_eq_true (by (with_reducible assumption))
        obtain ⟨ad705, e705, hx705_0⟩ := Kd.at_bool (Kd.R_reads' HO_0.out).2.2 x8_1 p705 q705
        (rw [← Nbq7.out] at hx705_0)
        cases e705
        clear p705
        replace q705 := eq_true q705
        have p13 : 0 ≤ (x8_1 : Int) := of_decide_eq_true (by (with_reducible assumption))
        have q13 : (x8_1 : Int) < ((x0_1.length : Int) : Int) := of_decide_eq_true (by (with_reducible assumption))
        obtain ⟨go13, co13, eo13, gb13, gl13, cl13, HG13⟩ := Kd.R_form HO_0.out (by omega)
        (cases eo13)
        have GB13 := M0 gb13
        clear gb13 gl13 HG13
        (simp only [add_plain] at hx705_0)
        obtain ⟨hx13_0, hf13_0⟩ := Kd.R_celln false HO_0.out (x8_1 : Int) p13 q13
        clear p13
        clear q13
        have HP15 := Kd.R_putg HO_0.out (x8_1 : Int) (rdOf false l1 x8_1)
        go_wp2_with (((with_reducible refine gate_store (t := 4) (p := 22) rfl ?_); refine store_event (t := 4) (p := 22) (v := ?vo_w16) (w1 := (wr.setCell ⟨go13, (x8_1 : Int).toNat, none⟩ (.bool (rdOf false l1 x8_1)))) ?hg ?ho ?hn ?hr ?_; (case ho => rfl); (case hg => rfl); (case hn => rfl); (case hr => (go_simp; done)); intro w16 hw; have hg : wr.grownBy w16 (some go13) := (by rw [hw]; exact HP15.2); have hp_ : Kd.R Kd.bool 4 w16 w0.heap.size (fun k_ => (P0_ k_ ∨ w.heap.size ≤ k_)) (.slice (some ⟨go13, 0, none⟩) x0_1.length co14) y707 := (by rw [hw, Ny707.out]; exact HP15.1); clear HP15; replace HB := M0 ((by rw [hw]; exact below_set (HB.out) GB13.out : Below w0.heap.size w0 w16)); replace HK := M0 (Kept.of_grown (S := (fun k_ => P0_ k_)) hg HK.out (fun k_ e_ => (HO_0.out.1 k_ e_))); replace HO_0 := M0 hp_; clear hg hw hp_))
        go_roundg k1
        case measure => have := HK1.out; omega
        case rel => exact ⟨(y707), (wrap64 (x8_1 + 1)), (by rfl), H', ⟨by have := HK1.out; omega⟩, ⟨by exact HO_0.out⟩, ⟨by with_reducible exact HK.out⟩, ⟨by with_reducible exact HB.out⟩⟩
      ·rw [if_neg c6] at H
       exact absurd H (by simp)
     ·rw [if_neg c5] at H
      exact absurd H (by simp)
    ·rw [if_neg c4] at H
     exact absurd H (by simp)
   ·rw [if_neg c3] at H
    have c3b0 := decide_eq_false c3
    clear c3
    obtain rfl := Option.some.inj H
    go_wp2
    go_end0
    exact ⟨by rfl, by exact HO_0.out, by with_reducible exact HB.out, by with_reducible exact HK.out⟩

end Go.Proofs.Ytodbnnfiadcbaaa.P
namespace Go.Proofs.Ytodbnnfiadcbaaa.P
open Go.RowKit Go.Proofs.YtodbnnfiadcbaaaW.PrintWords Go.Proofs.YtodbnnfiadcbaaaW.PrintLast Go.Proofs.YtodbnnfiadcbaaaW.PrintMore
set_option linter.unusedVariables false
set_option linter.unusedSimpArgs false
/-! #### the plain function -/
theorem isB_lt {w : List Int} {j n : Nat} {s : Int} (h : isB w j s = true) (hn : n = w.length + 1) : j + 1 < n := by
 unfold isB at h
 simp only [Bool.and_eq_true, decide_eq_true_eq] at h
 omega
/-! #### nodes in memory -/
def Node (W : World) (ok : Nat → Prop) (p : Addr) (t : S28) : Prop := ok p.block ∧ p.spot = none ∧ PlainAt W p ∧ ∃ cs, cs.length = 4 ∧ (∀ i u, cs[i]? = some u → W.cell? (p.add i) = some u) ∧ Kd.FK k28 W ok t cs
theorem cell_keep {W W1 : World} {a : Addr} {v : Value} (h : W1.heap[a.block]? = W.heap[a.block]?) (hc : W.cell? a = some v) : W1.cell? a = some v := by
 simpa [World.cell?, h] using hc
theorem add_at (b o i : Nat) : (⟨b, o, none⟩ : Addr).add i = ⟨b, o + i, none⟩ := by
 unfold Addr.add; split <;> simp_all
theorem add_block (a : Addr) (i : Nat) : (a.add i).block = a.block := by
 unfold Addr.add; split <;> rfl
theorem Node.mono {W : World} {ok ok' : Nat → Prop} {p : Addr} {t : S28} (h : Node W ok p t) (hok : ∀ k, ok k → ok' k) : Node W ok' p t := by
 obtain ⟨h1, h2, h3, cs, h4, h5, h6⟩ := h
 exact ⟨hok _ h1, h2, h3, cs, h4, h5, Kd.FK_mono h6 hok⟩
theorem Node.lt {W : World} {ok : Nat → Prop} {p : Addr} {t : S28} (h : Node W ok p t) : p.block < W.heap.size := by
 obtain ⟨h1, h2, ⟨_, _, h3⟩, _⟩ := h
 exact (Array.getElem?_eq_some_iff.1 h3).1
theorem Node.bound {W : World} {ok : Nat → Prop} {p : Addr} {t : S28} (h : Node W ok p t) : Node W (fun k => ok k ∧ k < W.heap.size) p t := by
 have hl := h.lt
 obtain ⟨h1, h2, h3, cs, h4, h5, h6⟩ := h
 exact ⟨⟨h1, hl⟩, h2, h3, cs, h4, h5, Kd.FK_bound h6⟩
theorem Node.step {W W1 : World} {ok : Nat → Prop} {p : Addr} {t : S28} (h : Node W ok p t) (hm : ∀ k, ok k → k < W.heap.size → W1.heap[k]? = W.heap[k]?) : Node W1 ok p t := by
 have hl := h.lt
 obtain ⟨h1, h2, ⟨c, tt, h3⟩, cs, h4, h5, h6⟩ := h
 exact ⟨h1, h2, ⟨c, tt, (hm _ h1 hl).trans h3⟩, cs, h4, fun i u hu => cell_keep (by rw [add_block]; exact hm _ h1 hl) (h5 i u hu), Kd.FK_step h6 hm⟩
theorem Node.open {W : World} {ok : Nat → Prop} {p : Addr} {t : S28} (h : Node W ok p t) : ∃ b o A c, p = ⟨b, o, none⟩ ∧ W.cell? ⟨b, o, none⟩ = some (.int .i64 t.f0) ∧ W.cell? ⟨b, o + 1, none⟩ = some (.int .i64 t.f1) ∧ W.cell? ⟨b, o + 2, none⟩ = some (.int .i64 t.f2) ∧ W.cell? ⟨b, o + 3, none⟩ = some (.slice A t.f3.length c) ∧ t.f3.length ≤ c ∧ Kd.F k28 W ok A t.f3.length t.f3 := by
 obtain ⟨h1, h2, h3, cs, h4, h5, h6⟩ := h
 obtain ⟨A, c, rfl, hl, hF⟩ := k28_openF h6
 obtain ⟨b, o, s⟩ := p
 simp only at h2
 subst h2
 refine ⟨b, o, A, c, rfl, ?_, ?_, ?_, ?_, hl, hF⟩
 ·simpa [Addr.add] using h5 0 _ rfl
 ·simpa [Addr.add] using h5 1 _ rfl
 ·simpa [Addr.add] using h5 2 _ rfl
 ·simpa [Addr.add] using h5 3 _ rfl
theorem F_ok {α : Type} {d : Kd α} {W : World} {ok : Nat → Prop} {ad : Addr} {n : Nat} {xs : List α} (h : Kd.F d W ok (some ad) n xs) (hn : 0 < n) (hs : 0 < d.sz) : ok ad.block := by
 apply Classical.byContradiction
 intro hno
 obtain ⟨W', h1, h2⟩ := Kd.emptied W ad.block
 exact Kd.C_not_empty (h W' (fun k hk _ => h1 k (fun e => hno (e ▸ hk)))) hn hs (h2 ad rfl)
theorem F_row {W : World} {ok : Nat → Prop} {A : Option Addr} {l : List S28} (h : Kd.F k28 W ok A l.length l) (i : Nat) (hi : i < l.length) : ∃ b o, A = some ⟨b, o, none⟩ ∧ Node W ok ⟨b, o + i * 4, none⟩ (l.getD i z28) := by
 obtain ⟨ad, c, e, hcl, hK, hc⟩ := Kd.C_get (Kd.F_now h) z28 (i : Int) (by omega) (by omega)
 subst e
 simp only [Int.toNat_natCast] at hK hc
 have hs4 : k28.sz = 4 := rfl
 have hokb := F_ok h (by omega) (by rw [hs4]; decide)
 obtain ⟨cells, tt, hb⟩ := (Kd.F_now h).2 trivial (by omega) ad rfl
 obtain ⟨b, o, s⟩ := ad
 have hsn : s = none := by
  cases s with
  | none => rfl
  | some q => exact absurd (by simp [World.cell?, show W.heap[b]? = _ from hb]) (Kd.C_not_empty (Kd.F_now h) (by omega) (by rw [hs4]; decide))
 subst hsn
 refine ⟨b, o, rfl, hokb, rfl, ⟨cells, tt, hb⟩, c, by rw [hcl]; rfl, fun j u hu => ?_, fun W' hW => ?_⟩
 ·have := hc j u hu
  rw [hs4, add_at] at this
  rw [add_at, Nat.add_assoc]
  exact this
 ·have hC := h W' hW
  obtain ⟨ad', c', e', hcl', hK', hc'⟩ := Kd.C_get hC z28 (i : Int) (by omega) (by omega)
  injection e' with e'
  subst e'
  simp only [Int.toNat_natCast] at hK' hc'
  have hblk : W'.heap[b]? = W.heap[b]? := hW b hokb (Array.getElem?_eq_some_iff.1 hb).1
  have hcc : c' = c := by
   apply List.ext_getElem?
   intro j
   by_cases hj : j < 4
   ·have hj1 : j < c.length := by rw [hcl]; exact hj
    have hj2 : j < c'.length := by rw [hcl']; exact hj
    have e1 := hc j _ (List.getElem?_eq_getElem hj1)
    have e2 := hc' j _ (List.getElem?_eq_getElem hj2)
    have e3 := cell_keep (W1 := W') (by rw [add_block]; exact hblk) e1
    rw [List.getElem?_eq_getElem hj1, List.getElem?_eq_getElem hj2]
    exact e2.symm.trans e3
   ·rw [List.getElem?_eq_none (l := c) (by rw [hcl, hs4]; omega), List.getElem?_eq_none (l := c') (by rw [hcl', hs4]; omega)]
  rw [← hcc]
  exact hK'
theorem Node.unique {W : World} {ok ok' : Nat → Prop} : ∀ (n : Nat) (t t' : S28) (p : Addr), SizeOf.sizeOf t < n → Node W ok p t → Node W ok' p t' → t = t'
 | 0, _, _, _, h, _, _ => absurd h (Nat.not_lt_zero _)
 | n + 1, t, t', p, hn, h, h' => by
  obtain ⟨b, o, A, c, rfl, h0, h1, h2, h3, h4, h5⟩ := h.open
  obtain ⟨b', o', A', c', e, h0', h1', h2', h3', h4', h5'⟩ := h'.open
  injection e with e1 e2 _
  subst e1
  subst e2
  rw [h0] at h0'; rw [h1] at h1'; rw [h2] at h2'; rw [h3] at h3'
  injection h0' with h0'; injection h0' with _ h0'
  injection h1' with h1'; injection h1' with _ h1'
  injection h2' with h2'; injection h2' with _ h2'
  injection h3' with h3'; injection h3' with e1 e2 e3
  subst e1
  have hL : t.f3 = t'.f3 := by
   apply List.ext_getElem e2
   intro i hi hi'
   obtain ⟨b1, o1, e, hN⟩ := F_row h5 i hi
   obtain ⟨b2, o2, e', hN'⟩ := F_row h5' i hi'
   rw [e] at e'
   injection e' with e'
   injection e' with e1 e2 _
   subst e1
   subst e2
   have hsz : SizeOf.sizeOf (t.f3.getD i z28) < n := by
    have hm : t.f3.getD i z28 ∈ t.f3 := by rw [List.getD_eq_getElem?_getD, List.getElem?_eq_getElem hi]; exact List.getElem_mem hi
    have := List.sizeOf_lt_of_mem hm
    have h9 : SizeOf.sizeOf t.f3 < SizeOf.sizeOf t := by cases t; simp only [S28.mk.sizeOf_spec]; omega
    omega
   have := Node.unique n _ _ _ hsz hN hN'
   rw [List.getD_eq_getElem?_getD, List.getElem?_eq_getElem hi, List.getD_eq_getElem?_getD, List.getElem?_eq_getElem hi'] at this
   exact this
  cases t
  cases t'
  simp only at h0' h1' h2' hL
  subst h0' h1' h2' hL
  rfl
theorem F_child {W : World} {ok : Nat → Prop} {A : Option Addr} {l : List S28} (h : Kd.F k28 W ok A l.length l) (i : Nat) (hi : i < l.length) : ∃ b o, A = some ⟨b, o, none⟩ ∧ Node W ok (Addr.add ⟨b, o, none⟩ (i * 4)) (l.getD i z28) := by
 obtain ⟨b, o, e, hN⟩ := F_row h i hi
 exact ⟨b, o, e, by rw [add_at]; exact hN⟩
theorem getD_drop {α : Type} (l : List α) (z : α) (j : Nat) (hj : j < l.length) : l.drop j = l.getD j z :: l.drop (j + 1) := by
 rw [List.getD_eq_getElem?_getD, List.getElem?_eq_getElem hj]
 exact List.drop_eq_getElem_cons hj
theorem rdOf_drop (l : List Bool) (j : Nat) (hj : j < l.length) : l.drop j = rdOf false l (j : Int) :: l.drop (j + 1) := by
 rw [getD_drop l false j hj]; rfl
theorem nestL_step {w : List Int} {fin : Int} {m o : List Bool} {j : Nat} (hj : j < m.length) : nestL w fin (m.drop j) j o = nestL w fin (m.drop (j + 1)) (j + 1) (if (rdOf false m (j : Int) && isB w j fin) = true then o.set (j + 1) true else o) := by
 rw [rdOf_drop m j hj]; rfl
theorem bind_some {α β : Type} {x : Option α} {f : α → Option β} {r : β} (h : x.bind f = some r) : ∃ y, x = some y ∧ f y = some r := Option.bind_eq_some_iff.mp h
theorem orL_step {f : S28 → Option (List Bool)} {l : List S28} {o r : List Bool} {j : Nat} (hj : j < l.length) (h : orL f (l.drop j) o = some r) : ∃ m o', f (l.getD j z28) = some m ∧ expr_join.f (m.length + 2) o m = some o' ∧ orL f (l.drop (j + 1)) o' = some r := by
 rw [getD_drop l z28 j hj] at h
 obtain ⟨m, h1, h⟩ := bind_some h
 obtain ⟨o', h2, h⟩ := bind_some h
 exact ⟨m, o', h1, h2, h⟩
theorem catL_step {f : S28 → Nat → Option (List Bool)} {l : List S28} {o r : List Bool} {j : Nat} (hj : j < l.length) (h : catL f (l.drop j) o = some r) : ∃ o', catRow (f (l.getD j z28)) o 0 (List.replicate o.length false) = some o' ∧ catL f (l.drop (j + 1)) o' = some r := by
 rw [getD_drop l z28 j hj] at h
 exact bind_some h
theorem catRow_step {f : Nat → Option (List Bool)} {l o r : List Bool} {j : Nat} (hj : j < l.length) (h : catRow f (l.drop j) j o = some r) :
  (rdOf false l (j : Int) = true ∧ ∃ m o', f j = some m ∧ expr_join.f (m.length + 2) o m = some o' ∧ catRow f (l.drop (j + 1)) (j + 1) o' = some r) ∨ (rdOf false l (j : Int) = false ∧ catRow f (l.drop (j + 1)) (j + 1) o = some r) := by
 rw [rdOf_drop l j hj] at h
 unfold catRow at h
 cases hb : rdOf false l (j : Int) with
 | true =>
  rw [hb, if_pos rfl] at h
  obtain ⟨m, h1, h⟩ := bind_some h
  obtain ⟨o', h2, h⟩ := bind_some h
  exact .inl ⟨rfl, m, o', h1, h2, h⟩
 | false =>
  rw [hb, if_neg (by decide)] at h
  exact .inr ⟨rfl, h⟩
theorem starL_step {f : Nat → Option (List Bool)} {q : Nat} {o r : List Bool} {j : Nat} (hj : j < o.length) (h : starL f q j o = some r) : ∃ q1, q = q1 + 1 ∧
  ((rdOf false o (j : Int) = true ∧ ∃ m o', f j = some m ∧ expr_join.f (m.length + 2) o m = some o' ∧ starL f q1 (j + 1) o' = some r) ∨ (rdOf false o (j : Int) = false ∧ starL f q1 (j + 1) o = some r)) := by
 cases q with
 | zero => cases h
 | succ q =>
  refine ⟨q, rfl, ?_⟩
  unfold starL at h
  rw [if_pos hj] at h
  cases hb : rdOf false o (j : Int) with
  | true =>
   rw [hb, if_pos rfl] at h
   obtain ⟨m, h1, h⟩ := bind_some h
   obtain ⟨o', h2, h⟩ := bind_some h
   exact .inl ⟨rfl, m, o', h1, h2, h⟩
  | false =>
   rw [hb, if_neg (by decide)] at h
   exact .inr ⟨rfl, h⟩
theorem starL_end {f : Nat → Option (List Bool)} {q : Nat} {o r : List Bool} {j : Nat} (hj : ¬ j < o.length) (h : starL f q j o = some r) : o = r := by
 cases q with
 | zero => cases h
 | succ q =>
  unfold starL at h
  rw [if_neg hj] at h
  exact Option.some.inj h
/-! #### the reader -/
def Entry (W : World) (ok : Nat → Prop) (lw : List Int) (e : MapEntry) : Prop := ∃ (p : Addr) (n : Nat) (t : S28) (k : Nat) (l : List Bool) (A : Option Addr) (c : Nat), e.key = keyV p n ∧ e.val = .slice A l.length c ∧ l.length ≤ c ∧ Kd.F Kd.bool W ok A l.length l ∧ Node W ok p t ∧ endF k t n lw = some l
structure RInv (W : World) (ok : Nat → Prop) (g bm : Nat) (Aw : Option Addr) (cw : Nat) (lw : List Int) : Prop where
 blk : W.heap[g]? = some (.cells #[.slice Aw lw.length cw, .map (some bm)] 94 (0, 0))
 okg : ok g
 nok : ¬ ok bm
 cap : lw.length ≤ cw
 row : Kd.F (Kd.int .i64) W ok Aw lw.length lw
 map : ∃ es clk, W.heap[bm]? = some (.map es clk) ∧ ∀ e ∈ es.toList, Entry W ok lw e
section
variable {W W1 : World} {ok ok' : Nat → Prop} {g bm : Nat} {Aw : Option Addr} {cw : Nat} {lw : List Int}
theorem Entry.mono {e : MapEntry} (h : Entry W ok lw e) (hok : ∀ k, ok k → ok' k) : Entry W ok' lw e := by
 obtain ⟨p, n, t, k, l, A, c, h1, h2, h3, h4, h5, h6⟩ := h
 exact ⟨p, n, t, k, l, A, c, h1, h2, h3, Kd.F_mono h4 hok, h5.mono hok, h6⟩
theorem Entry.bound {e : MapEntry} (h : Entry W ok lw e) : Entry W (fun k => ok k ∧ k < W.heap.size) lw e := by
 obtain ⟨p, n, t, k, l, A, c, h1, h2, h3, h4, h5, h6⟩ := h
 exact ⟨p, n, t, k, l, A, c, h1, h2, h3, Kd.F_bound h4, h5.bound, h6⟩
theorem Entry.step {e : MapEntry} (h : Entry W ok lw e) (hm : ∀ k, ok k → k < W.heap.size → W1.heap[k]? = W.heap[k]?) : Entry W1 ok lw e := by
 obtain ⟨p, n, t, k, l, A, c, h1, h2, h3, h4, h5, h6⟩ := h
 exact ⟨p, n, t, k, l, A, c, h1, h2, h3, Kd.F_step h4 hm, h5.step hm, h6⟩
theorem RInv.glt (h : RInv W ok g bm Aw cw lw) : g < W.heap.size := (Array.getElem?_eq_some_iff.1 h.blk).1
theorem RInv.blt (h : RInv W ok g bm Aw cw lw) : bm < W.heap.size := by
 obtain ⟨_, _, hb, _⟩ := h.map
 exact (Array.getElem?_eq_some_iff.1 hb).1
theorem RInv.mono (h : RInv W ok g bm Aw cw lw) (hok : ∀ k, ok k → ok' k) (hno : ¬ ok' bm) : RInv W ok' g bm Aw cw lw := by
 obtain ⟨es, clk, hb, he⟩ := h.map
 exact ⟨h.blk, hok _ h.okg, hno, h.cap, Kd.F_mono h.row hok, es, clk, hb, fun e hm => (he e hm).mono hok⟩
theorem RInv.bound (h : RInv W ok g bm Aw cw lw) : RInv W (fun k => ok k ∧ k < W.heap.size) g bm Aw cw lw := by
 obtain ⟨es, clk, hb, he⟩ := h.map
 exact ⟨h.blk, ⟨h.okg, h.glt⟩, fun h' => h.nok h'.1, h.cap, Kd.F_bound h.row, es, clk, hb, fun e hm => (he e hm).bound⟩
theorem RInv.step (h : RInv W ok g bm Aw cw lw) (hm : ∀ k, ok k → k < W.heap.size → W1.heap[k]? = W.heap[k]?) (hbm : W1.heap[bm]? = W.heap[bm]?) : RInv W1 ok g bm Aw cw lw := by
 obtain ⟨es, clk, hb, he⟩ := h.map
 exact ⟨(hm _ h.okg h.glt).trans h.blk, h.okg, h.nok, h.cap, Kd.F_step h.row hm, es, clk, hbm.trans hb, fun e hm' => (he e hm').step hm⟩
theorem KeysOk.of {es : List MapEntry} (h : ∀ e ∈ es, Entry W ok lw e) : KeysOk W es := fun e he => by
 obtain ⟨p, n, t, k, l, A, c, h1, h2, h3, h4, h5, h6⟩ := h e he
 exact ⟨p, n, h1, h5.2.2.1⟩
end
/-! #### the state of a call: the row it writes (its own), the reader -/
def Same (w W : World) : Prop := W.os = w.os ∧ W.tape = w.tape ∧ W.output = w.output
theorem Same.refl (w : World) : Same w w := ⟨rfl, rfl, rfl⟩
theorem Same.trans {a b c : World} (h : Same a b) (k : Same b c) : Same a c := ⟨k.1.trans h.1, k.2.1.trans h.2.1, k.2.2.trans h.2.2⟩
theorem Same.of_below {n : Nat} {a b : World} (h : Below n a b) : Same a b := ⟨h.os, h.tape, h.output⟩
abbrev sv (b n c : Nat) : Value := .slice (some ⟨b, 0, none⟩) n c
structure Inv (w W : World) (ok : Nat → Prop) (g bm : Nat) (Aw : Option Addr) (cw : Nat) (lw : List Int) (n b c : Nat) (l : List Bool) : Prop where
 nn : n = lw.length + 1
 same : Same w W
 kept : Kept w W (fun k => k = bm)
 base : w.heap.size ≤ b
 lt : b < W.heap.size
 own : Kd.R Kd.bool 4 W w.heap.size (fun k => k = b) (sv b n c) l
 inv : RInv W (fun k => ok k ∧ k ≠ b) g bm Aw cw lw
theorem bool_one {W : World} {e base b n c : Nat} {ok : Nat → Prop} {l : List Bool} (h : Kd.R Kd.bool e W base ok (sv b n c) l) : Kd.R Kd.bool e W base (fun k => k = b) (sv b n c) l :=
 ⟨fun k hk => by simp only [Value.ownBlock, Option.map_some, Option.some.injEq] at hk; exact hk.symm, h.2⟩
theorem row_made {W W1 : World} {base m n : Nat} (hn : n = m + 1) {ok : Nat → Prop} {v : Value} (hv : Kd.R Kd.bool 4 W1 base ok v (List.replicate n false)) (hat : ∃ b, v.ownBlock = some b ∧ W.heap.size ≤ b) :
  ∃ b c, v = sv b n c ∧ W.heap.size ≤ b ∧ b < W1.heap.size ∧ Kd.R Kd.bool 4 W1 base (fun k => k = b) (sv b n c) (List.replicate n false) := by
 obtain ⟨b, c, e, h1, h2, h3⟩ := Kd.R_form hv (by rw [List.length_replicate]; omega)
 rw [List.length_replicate] at e
 subst e
 obtain ⟨b', e, h4⟩ := hat
 simp only [Value.ownBlock, Option.map_some, Option.some.injEq] at e
 subst e
 exact ⟨b, c, rfl, h4, h2, bool_one hv⟩
section
variable {w W W1 : World} {ok okn : Nat → Prop} {g bm : Nat} {Aw : Option Addr} {cw : Nat} {lw : List Int} {n b c : Nat} {l : List Bool}
theorem Inv.made (hn : n = lw.length + 1) (hs : Same w W) (hk : Kept w W (fun k => k = bm)) (hR : RInv W ok g bm Aw cw lw) (hg : W.grownBy W1 none) (hb : W.heap.size ≤ b) (hlt : b < W1.heap.size)
  (ho : Kd.R Kd.bool 4 W1 w.heap.size (fun k => k = b) (sv b n c) l) : Inv w W1 ok g bm Aw cw lw n b c l where
 nn := hn
 same := hs.trans ⟨hg.os, hg.tape, hg.output⟩
 kept := Kept.of_grown hg hk (fun k e => by cases e)
 base := Nat.le_trans hk.1 hb
 lt := hlt
 own := ho
 inv := by
  refine (hR.bound.step (W1 := W1) (fun k hk hlt => hg.block k hlt (by simp)) (hg.block bm hR.blt (by simp))).mono (fun k hk => ⟨hk.1, by have := hk.2; omega⟩) (fun h => hR.nok h.1)
theorem Inv.set (h : Inv w W ok g bm Aw cw lw n b c l) (hbm : bm < w.heap.size) (i : Nat) (x : Bool) : Inv w (W.setCell ⟨b, i, none⟩ (.bool x)) ok g bm Aw cw lw n b c (l.set i x) := by
 have hp := Kd.R_putg h.own (i : Int) x
 simp only [Int.toNat_natCast] at hp
 have hb := h.base
 refine ⟨h.nn, h.same.trans ⟨hp.2.os, hp.2.tape, hp.2.output⟩, Kept.of_grown hp.2 h.kept (fun k e => .inr (by injection e with e; omega)), h.base, by simpa [World.setCell] using h.lt, hp.1, ?_⟩
 exact h.inv.step (fun k hk _ => Below.heap_setCell W ⟨b, i, none⟩ _ k hk.2) (Below.heap_setCell W ⟨b, i, none⟩ _ bm (by show bm ≠ b; omega))
theorem Inv.weak (h : Inv w W okn g bm Aw cw lw n b c l) (hok : ∀ k, okn k → ok k) (hno : ¬ ok bm) : Inv w W ok g bm Aw cw lw n b c l :=
 ⟨h.nn, h.same, h.kept, h.base, h.lt, h.own, h.inv.mono (fun k hk => ⟨hok k hk.1, hk.2⟩) (fun h' => hno h'.1)⟩
theorem Inv.cell (h : Inv w W ok g bm Aw cw lw n b c l) {q o : Nat} {v : Value} (hlt : q < w.heap.size) (hne : q ≠ bm) (hc : w.cell? ⟨q, o, none⟩ = some v) : W.cell? ⟨q, o, none⟩ = some v :=
 cell_keep (h.kept.2 q hlt hne) hc
theorem Inv.cellb (h : Inv w W ok g bm Aw cw lw n b c l) (i : Nat) (hi : i < n) : W.cell? ⟨b, i, none⟩ = some (.bool (rdOf false l (i : Int))) ∧ W.frozen? ⟨b, i, none⟩ = false := by
 have := Kd.R_celln false h.own (i : Int) (by omega) (by omega)
 simpa only [Int.toNat_natCast] using this
theorem Inv.len (h : Inv w W ok g bm Aw cw lw n b c l) : l.length = n := (Kd.R_reads' h.own).1.symm
theorem Inv.node (h : Inv w W ok g bm Aw cw lw n b c l) {p : Addr} {t : S28} (hN : Node w okn p t) (hn : ∀ k, okn k → k ≠ bm) (hok : ∀ k, okn k → k < w.heap.size → ok k) : Node W (fun k => ok k ∧ k ≠ b) p t := by
 have hb := h.base
 exact (hN.bound.step (W1 := W) (fun k hk hlt => h.kept.2 k hlt (hn k hk.1))).mono (fun k hk => ⟨hok k hk.1 hk.2, by have := hk.2; omega⟩)
theorem below_trunc (W : World) (n : Nat) (hn : n ≤ W.heap.size) : Below n { W with heap := W.heap.extract 0 n } W :=
 ⟨rfl, rfl, rfl, by simp; omega, fun k hk => by simp only [Array.getElem?_extract]; rw [if_pos (by omega)]; simp⟩
theorem Inv.join (h : Inv w W ok g bm Aw cw lw n b c l) (hbm : bm < w.heap.size) {A : Option Addr} {cm : Nat} {m o : List Bool} {f : Nat} (hm : Kd.F Kd.bool W (fun k => ok k ∧ k ≠ b) A m.length m) (hc : m.length ≤ cm) (hj : expr_join.f f l m = some o) :
  Calls Try.prog 70 #[sv b n c, .slice A m.length cm] W fun e W' => e = .returned (.tuple #[]) ∧ Inv w W' ok g bm Aw cw lw n b c o ∧ Kept W W' (fun k => k = b) := by
 have hsz : ({ W with heap := W.heap.extract 0 w.heap.size } : World).heap.size = w.heap.size := by simp; exact Nat.min_eq_left h.kept.1
 have hb := h.base
 refine (expr_join.calls f (fun k => k = b) (sv b n c) l A cm m o { W with heap := W.heap.extract 0 w.heap.size } W (by rw [hsz]; exact below_trunc W _ h.kept.1) (by rw [hsz]; exact h.own) (fun W' hk => Kd.F_now (Kd.F_kept hm hk (fun k hk => hk.2))) hc hj).mono ?_
 rintro e W' ⟨he, h1, h2, h3⟩
 rw [hsz] at h1
 refine ⟨he, ⟨h.nn, h.same.trans (show Same W W' from ⟨h2.os, h2.tape, h2.output⟩), h.kept.then_ h3 (fun k hk => .inr (by omega)), h.base, Nat.lt_of_lt_of_le h.lt h3.1, bool_one h1, ?_⟩, h3⟩
 exact h.inv.step (fun k hk hlt => h3.2 k hlt hk.2) (h3.2 bm h.inv.blt (by omega))
end
/-- What is kept under a pointer and a place. -/
theorem Inv.stored {w W W' : World} {ok : Nat → Prop} {g bm : Nat} {Aw : Option Addr} {cw : Nat} {lw : List Int} {n b c : Nat} {l : List Bool} (h : Inv w W ok g bm Aw cw lw n b c l) (hbm : bm < w.heap.size) (hokb : ok b) (hno : ¬ ok bm) {p : Addr} {t : S28} {at_ k : Nat} (hN : Node W ok p t) (hf : endF k t at_ lw = some l)
  (hl : l.length ≤ c) {es es' : Array MapEntry} {clk clk' : Nat} (hb0 : W.heap[bm]? = some (.map es clk)) (hE : ∀ e ∈ es.toList, Entry W (fun k => ok k ∧ k ≠ b) lw e) (hW : W' = { W with heap := W.heap.setIfInBounds bm (.map es' clk') }) (hes : ∀ e ∈ es'.toList, e ∈ es.toList ∨ e.key = keyV p at_ ∧ e.val = sv b n c) :
  Kd.F Kd.bool W' ok (some ⟨b, 0, none⟩) l.length l ∧ RInv W' ok g bm Aw cw lw ∧ Kept w W' (fun j => j = bm) ∧ Same w W' := by
 have hb := h.base
 have hk : ∀ k, k ≠ bm → W'.heap[k]? = W.heap[k]? := fun k hk => by rw [hW]; simp [Ne.symm hk]
 have hbl : W'.heap[bm]? = some (.map es' clk') := by rw [hW]; simp [h.inv.blt]
 have hle := h.len
 have hrow : Kd.F Kd.bool W ok (some ⟨b, 0, none⟩) l.length l := by
  have := Kd.R_F h.own
  rw [← hle] at this
  exact Kd.F_mono this (fun k hk => hk ▸ hokb)
 have hrow' := Kd.F_step (W1 := W') hrow (fun k hk' _ => hk k (fun e => hno (e ▸ hk')))
 refine ⟨hrow', ⟨(hk g (fun e => hno (e ▸ h.inv.okg.1))).trans h.inv.blk, h.inv.okg.1, hno, h.inv.cap, Kd.F_step (Kd.F_mono h.inv.row (fun k hk => hk.1)) (fun k hk' _ => hk k (fun e => hno (e ▸ hk'))), es', clk', hbl, fun e he => ?_⟩, ⟨by rw [hW]; simpa using h.kept.1, fun i hi hn => (hk i hn).trans (h.kept.2 i hi hn)⟩, ?_⟩
 ·rcases hes e he with he | ⟨he1, he2⟩
  ·exact ((hE e he).mono (fun k hk => hk.1)).step (fun k hk' _ => hk k (fun e => hno (e ▸ hk')))
  ·exact ⟨p, at_, t, k, l, some ⟨b, 0, none⟩, c, he1, by rw [he2, hle], hl, hrow', hN.step (fun k hk' _ => hk k (fun e => hno (e ▸ hk'))), hf⟩
 ·rw [hW]; exact h.same
def Post (W : World) (ok : Nat → Prop) (g bm : Nat) (Aw : Option Addr) (cw : Nat) (lw : List Int) (r : List Bool) (e : Ending) (W' : World) : Prop :=
 ∃ A c, e = .returned (.slice A r.length c) ∧ r.length ≤ c ∧ Kd.F Kd.bool W' ok A r.length r ∧ RInv W' ok g bm Aw cw lw ∧ Kept W W' (fun j => j = bm) ∧ Same W W'
def EndS (k : Nat) : Prop := ∀ (t : S28) (at_ : Nat) (r : List Bool) (p : Addr) (g bm : Nat) (Aw : Option Addr) (cw : Nat) (lw : List Int) (ok : Nat → Prop) (W : World),
 endF k t at_ lw = some r → RInv W ok g bm Aw cw lw → Node W ok p t → (∀ j, W.heap.size ≤ j → ok j) →
 Calls Try.prog 49 #[.pointer (some ⟨g, 0, none⟩), .pointer (some p), .int .i64 (at_ : Int)] W (Post W ok g bm Aw cw lw r)
def EndK (k : Nat) (c : S28 → Prop) : Prop := ∀ (t : S28) (at_ : Nat) (r : List Bool) (p : Addr) (g bm : Nat) (Aw : Option Addr) (cw : Nat) (lw : List Int) (ok : Nat → Prop) (W : World),
 c t → endF (k + 1) t at_ lw = some r → RInv W ok g bm Aw cw lw → Node W ok p t → (∀ j, W.heap.size ≤ j → ok j) →
 Calls Try.prog 49 #[.pointer (some ⟨g, 0, none⟩), .pointer (some p), .int .i64 (at_ : Int)] W (Post W ok g bm Aw cw lw r)
theorem found {W : World} {ok : Nat → Prop} {lw : List Int} {p : Addr} {t : S28} {at_ k : Nat} {r : List Bool} {e : MapEntry} (h : endF k t at_ lw = some r) (hN : Node W ok p t) (hE : Entry W ok lw e) (hk : e.key = keyV p at_) :
  ∃ A c, e.val = .slice A r.length c ∧ r.length ≤ c ∧ Kd.F Kd.bool W ok A r.length r := by
 obtain ⟨p', n, t', k', l, A, c, h1, h2, h3, h4, h5, h6⟩ := hE
 rw [h1] at hk
 unfold keyV at hk
 injection hk with hk
 simp only [Array.mk.injEq, List.cons.injEq, Value.pointer.injEq, Option.some.injEq, Value.int.injEq, Int.natCast_inj, true_and, and_true] at hk
 obtain ⟨rfl, rfl⟩ := hk
 obtain rfl := Node.unique _ _ _ _ (Nat.lt_succ_self _) hN h5
 obtain rfl := endF_one h h6
 exact ⟨A, c, h2, h3, h4⟩
section
variable {w W : World} {ok okn : Nat → Prop} {g bm : Nat} {Aw : Option Addr} {cw : Nat} {lw : List Int} {n b c : Nat} {l : List Bool}
/-- A call of 'end' in the middle. -/
theorem Inv.call {k : Nat} (ih : EndS k) (h : Inv w W ok g bm Aw cw lw n b c l) (hbm : bm < w.heap.size) (hfr : ∀ j, W.heap.size ≤ j → ok j) {p : Addr} {t : S28} {at_ : Nat} {m : List Bool} (hN : Node w okn p t) (hn : ∀ k, okn k → k ≠ bm) (hok : ∀ k, okn k → k < w.heap.size → ok k) (hf : endF k t at_ lw = some m) :
  Calls Try.prog 49 #[.pointer (some ⟨g, 0, none⟩), .pointer (some p), .int .i64 (at_ : Int)] W fun e W' => ∃ A cm, e = .returned (.slice A m.length cm) ∧ m.length ≤ cm ∧ Kd.F Kd.bool W' (fun k => ok k ∧ k ≠ b) A m.length m ∧ Inv w W' ok g bm Aw cw lw n b c l ∧ Kept W W' (fun k => k = bm) := by
 have hb := h.base
 refine (ih t at_ m p g bm Aw cw lw (fun k => ok k ∧ k ≠ b) W hf h.inv (h.node hN hn hok) (fun j hj => ⟨hfr j hj, by have := h.lt; omega⟩)).mono ?_
 rintro e W' ⟨A, cm, he, h1, h2, h3, h4, h5⟩
 exact ⟨A, cm, he, h1, h2, ⟨h.nn, h.same.trans h5, h.kept.then_ h4 (fun k hk => .inl hk), h.base, Nat.lt_of_lt_of_le h.lt h4.1, Kd.R_step h.own (fun k hk hlt => h4.2 k hlt (by omega)), h3⟩, h4⟩
end
end Go.Proofs.Ytodbnnfiadcbaaa.P
namespace Go.Proofs.Ytodbnnfiadcbaaa.P
open Go.RowKit Go.Proofs.YtodbnnfiadcbaaaW.PrintWords Go.Proofs.YtodbnnfiadcbaaaW.PrintLast Go.Proofs.YtodbnnfiadcbaaaW.PrintMore
set_option linter.unusedVariables false
set_option linter.unusedSimpArgs false
set_option maxHeartbeats 8000000 in
set_option maxRecDepth 100000 in
theorem reader_is_calls {W : World} {ok : Nat → Prop} {g bm : Nat} {Aw : Option Addr} {cw : Nat} {lw : List Int} (h : RInv W ok g bm Aw cw lw) (i : Nat) (s : Int) :
  Calls Try.prog 69 #[.pointer (some ⟨g, 0, none⟩), .int .i64 (i : Int), .int .i64 s] W fun e W' => e = .returned (.bool (isB lw i s)) ∧ W = W' := by
 have hc0 : W.cell? ⟨g, 0, none⟩ = some (.slice Aw lw.length cw) := (blk_cell h.blk 0).trans rfl
 by_cases hi : i < lw.length
 ·obtain ⟨ad, e, hx⟩ := Kd.at_int (Kd.F_now h.row) (i : Int) (by omega) (by omega)
  have hS : isB lw i s = (rd lw (i : Int) == s) := by
   unfold isB
   rw [decide_eq_true hi, Bool.true_and]
  have c1 : decide ((i : Int) < (lw.length : Int)) = true := decide_eq_true (by omega)
  have p1 : (0 ≤ (i : Int)) = True := eq_true (by omega)
  have p2 : ((i : Int) < (lw.length : Int)) = True := eq_true (by omega)
  rw [hS]
  subst e
  rw [Int.toNat_natCast] at hx
  go_enter Try.func69, Try.ntmps69
  go_wp2
  go_ret
  exact ⟨rfl, rfl⟩
 ·have hS : isB lw i s = false := by
   unfold isB
   rw [decide_eq_false hi, Bool.false_and]
  have c1 : decide ((i : Int) < (lw.length : Int)) = false := decide_eq_false (by omega)
  rw [hS]
  go_enter Try.func69, Try.ntmps69
  go_wp2
  go_ret
  exact ⟨rfl, rfl⟩
set_option maxHeartbeats 8000000 in
set_option maxRecDepth 100000 in
theorem end_cat {k : Nat} (ih : EndS k) : EndK k (fun t => t.f0 = 5) := by
 intro t at_ r p g bm Aw cw lw ok w hk h hR hN hfr
 replace hk : t.f0 = 5 := hk
 have hP : PlainAt w p := hN.2.2.1
 have hbm := hR.blt
 obtain ⟨es, clk, hb, he⟩ := hR.map
 obtain ⟨v, b, hrun, hv⟩ := lookup_run w (at_ : Int) hP hb (KeysOk.of he)
 have hg0 : w.cell? ⟨g, 0, none⟩ = some (.slice Aw lw.length cw) := (blk_cell hR.blk 0).trans rfl
 have hg1 : w.cell? ⟨g, 1, none⟩ = some (.map (some bm)) := (blk_cell hR.blk 1).trans rfl
 have hlw : at_ ≤ lw.length ∧ lw.length < 140737488355327 := by
  unfold endF at h
  by_cases hh : at_ ≤ lw.length ∧ lw.length < 140737488355327
  ·exact hh
  ·rw [if_neg hh] at h; cases h
 obtain ⟨n, hn⟩ : ∃ n, n = lw.length + 1 := ⟨_, rfl⟩
 have hw1 : ((lw.length : Int) + 1).toNat = n := by omega
 have hnn := Aside0.mk hn
 clear hn
 go_enter Try.func49, Try.ntmps49
 unfold keyV at hrun
 go_upto_if 29 with (fail)
 cases b with
 | true =>
  obtain ⟨e, hm, hk, rfl⟩ := hv rfl
  obtain ⟨A, c, ev, h1, h2⟩ := found h hN (he e hm) hk
  rw [ev]
  go_wp2
  go_ret
  exact ⟨A, c, rfl, h1, h2, hR, Kept.refl _ _, Same.refl _⟩
 | false =>
  clear hv hrun
  have hpl := hN.lt
  have hgl := hR.glt
  have hgb : g ≠ bm := fun e => hR.nok (e ▸ hR.okg)
  have hpb : p.block ≠ bm := fun e => hR.nok (e ▸ hN.1)
  obtain ⟨pb, po, Ap, cp, rfl, h0, h1, h2, h3, hcp, hF⟩ := hN.open
  go_upto_region 5 with (first | ((with_reducible refine gate_dst (N := 37) rfl ?_); refine Kd.R_make Kd.bool w.heap.size 4 rfl (N := 37) rfl 95 _ _ rfl ((lw.length : Int) + 1) rfl rfl Try.underlying95 (.bool false) 1 info4 rfl (by decide) (by omega) false (ok := fun _ => True) (okp := fun _ => True) rfl (fun _ hk => hk) trivial (by omega) (by rw [hw1]; omega) (Below.refl _ _) (Nat.le_refl _) ?_; intro v1 W hv1 hb1 hg hat; rw [hw1] at hv1; obtain ⟨bo, co, rfl, hbo, hblt, hown⟩ := row_made hnn.out hv1 hat; have HI := Inv.made hnn.out (Same.refl _) (Kept.refl _ _) hR hg hbo hblt hown; clear hv1 hat hown; have c0 := HI.cell hpl hpb h0; have c1 := HI.cell hpl hpb h1; have c2 := HI.cell hpl hpb h2; have c3 := HI.cell hpl hpb h3; have d0 := HI.cell hgl hgb hg0; have d1 := HI.cell hgl hgb hg1))
  go_upto_block 0 with (fail)
  go_cut [9] from 10 (fun s9 wc => ∃ b1 c1, s9 = sv b1 n c1 ∧ Inv w wc ok g bm Aw cw lw n b1 c1 r)
  case rest =>
   clear HI
   obtain ⟨b1, c1, rfl, HI⟩ := hcut
   have c0 := HI.cell hpl hpb h0
   have d0 := HI.cell hgl hgb hg0
   have d1 := HI.cell hgl hgb hg1
   have hb1 := HI.base
   have hNr := HI.node (okn := ok) hN (fun k hk e => hR.nok (e ▸ hk)) (fun k hk _ => hk)
   obtain ⟨es1, clk1, hbr, her⟩ := HI.inv.map
   obtain ⟨es2, clk2, hup, hes2⟩ := update_run wc (at_ : Int) (sv b1 n c1) hNr.2.2.1 hbr (KeysOk.of her)
   unfold keyV at hup
   go_wp2
   obtain ⟨q1, q2, q3, q4⟩ := HI.stored hbm (hfr b1 hb1) hR.nok (hNr.mono (fun k hk => hk.1)) h (by rw [HI.len]; exact (Kd.R_reads' HI.own).2.1) hbr her rfl hes2
   go_ret
   exact ⟨some ⟨b1, 0, none⟩, c1, by rw [HI.len]; rfl, by rw [HI.len]; exact (Kd.R_reads' HI.own).2.1, q1, q2, q3, q4⟩
  case first =>
   have H := h
   unfold endF at H
   rw [if_pos hlw, ← hnn.out] at H
   have hat3 : at_ < n := by have := hnn.out; omega
   have hnm : n ≤ 9223372036854775807 := by have := hnn.out; omega
   have hnk := Aside0.mk (show n * 1 ≤ 281474976710656 by have := hnn.out; omega)
   have hat1 := tr_ge at_
   have hat2 := tr_lt hat3
   have k2 : ¬ t.f0 = 2 := by rw [hk]; decide
   rw [if_neg k2] at H
   have b2 : (t.f0 == 2) = false := beq_eq_false_iff_ne.mpr k2
   have k3 : ¬ t.f0 = 3 := by rw [hk]; decide
   rw [if_neg k3] at H
   have b3 : (t.f0 == 3) = false := beq_eq_false_iff_ne.mpr k3
   have k4 : ¬ t.f0 = 4 := by rw [hk]; decide
   rw [if_neg k4] at H
   have b4 : (t.f0 == 4) = false := beq_eq_false_iff_ne.mpr k4
   have k6 : ¬ t.f0 = 6 := by rw [hk]; decide
   rw [if_neg k6] at H
   have b6 : (t.f0 == 6) = false := beq_eq_false_iff_ne.mpr k6
   rw [if_pos hk] at H
   have b5 : (t.f0 == 5) = true := beq_iff_eq.mpr hk
   have H' := Aside0.mk H
   clear H
   have hFl : t.f3.length ≤ 9223372036854775807 := Kd.C_max (Kd.F_now hF)
   obtain ⟨cb, cf⟩ := HI.cellb at_ hat3
   go_upto_region 27 with (fail)
   have HJ := HI.set hbm at_ true
   clear HI cb cf
   clear c0 c1 c2 c3 d0 d1
   generalize World.setCell _ _ _ = W5 at HJ ⊢
   have HI := HJ
   clear HJ
   have c0 := HI.cell hpl hpb h0; have c1 := HI.cell hpl hpb h1; have c2 := HI.cell hpl hpb h2; have c3 := HI.cell hpl hpb h3; have d0 := HI.cell hgl hgb hg0; have d1 := HI.cell hgl hgb hg1
   go_wp2
   go_loopg [9, 139] t.f3.length (fun kq s9 s wr => ∃ (j : Nat) (o : List Bool) (b1 e1 : Nat), s9 = sv b1 n e1 ∧ s = .int .i64 (j : Int) ∧ Aside0 (kq + j = t.f3.length) ∧ Aside0 (Inv w wr ok g bm Aw cw lw n b1 e1 o) ∧ Aside0 (catL (fun c j => endF k c j lw) (t.f3.drop j) o = some r))
   case atStart => exact ⟨0, _, bo, co, rfl, rfl, ⟨rfl⟩, ⟨HI⟩, H'⟩
   case round =>
    clear HI H'
    clear c0 c1 c2 c3 d0 d1
    obtain ⟨j, o, b1, e1, rfl, rfl, hq, HI, Hn⟩ := hrel
    replace HI := HI.out
    replace Hn := Hn.out
    have hq1 := hq.out
    have c0 := HI.cell hpl hpb h0; have c1 := HI.cell hpl hpb h1; have c2 := HI.cell hpl hpb h2; have c3 := HI.cell hpl hpb h3; have d0 := HI.cell hgl hgb hg0; have d1 := HI.cell hgl hgb hg1
    by_cases hj : j < t.f3.length
    ·obtain ⟨k1, rfl, hq3⟩ := pred_ex hq1 hj
     have j0 := tr_ge j
     have j1 := tr_lt hj
     have j2 := tr_dlt hj
     obtain ⟨o2, hrow, Hr⟩ := catL_step hj Hn
     have hol := HI.len
     rw [hol] at hrow
     have hol' := Aside0.mk hol
     clear hol
     have Hrow' := Aside0.mk hrow
     have Hr' := Aside0.mk Hr
     clear Hn Hr hrow
     obtain ⟨qb, qo, e, hNc⟩ := F_row hF j hj
     subst e
     have hNd := Aside0.mk hNc
     clear hNc
     go_wp2_with (first | ((with_reducible refine gate_dst (N := 144) rfl ?_); refine Kd.R_make Kd.bool w.heap.size 4 rfl (N := 144) rfl 95 _ _ rfl (n : Int) rfl rfl Try.underlying95 (.bool false) 1 info4 rfl (by decide) (by decide) false (ok := fun _ => True) (okp := fun _ => True) rfl (fun _ hk => hk) trivial (Int.natCast_nonneg _) (by rw [Int.toNat_natCast]; exact hnk.out) (Below.refl _ _) HI.kept.1 ?_; intro v1 W hv1 hbe hg hat; rw [Int.toNat_natCast] at hv1; obtain ⟨bx, cx, rfl, hbx, hblt, hown⟩ := row_made hnn.out hv1 hat; have HI2 := Inv.made hnn.out HI.same HI.kept HI.inv hg hbx hblt hown; have HO := Kd.R_step HI.own (fun k hk hlt => hg.block k hlt (by simp)); have hne := Aside0.mk (show b1 ≠ bx by have := HI.lt; omega); have hb1 := Aside0.mk (show w.heap.size ≤ b1 ∧ bm < w.heap.size from ⟨HI.base, hbm⟩); have hb2 := Aside0.mk (show b1 ≠ bm from Nat.ne_of_gt (Nat.lt_of_lt_of_le hbm HI.base)); clear hv1 hat hown HI; clear c0 c1 c2 c3 d0 d1; have c0 := HI2.cell hpl hpb h0; have c1 := HI2.cell hpl hpb h1; have c2 := HI2.cell hpl hpb h2; have c3 := HI2.cell hpl hpb h3; have d0 := HI2.cell hgl hgb hg0; have d1 := HI2.cell hgl hgb hg1))
     go_loopg [147] n (fun kq s wr => ∃ (i : Nat) (x : List Bool), s = .int .i64 (i : Int) ∧ Aside0 (kq + i = n) ∧ Aside0 (Inv w wr (fun k => ok k ∧ k ≠ b1) g bm Aw cw lw n bx cx x) ∧ Aside0 (Kd.R Kd.bool 4 wr w.heap.size (fun k => k = b1) (sv b1 n e1) o) ∧ Aside0 (catRow (fun j' => endF k (t.f3.getD j z28) j' lw) (o.drop i) i x = some o2))
     case atStart => exact ⟨0, _, rfl, ⟨rfl⟩, ⟨HI2⟩, ⟨HO⟩, Hrow'⟩
     case round =>
      as_aux_lemma =>
       clear HI2 HO Hrow'
       clear c0 c1 c2 c3 d0 d1
       obtain ⟨i, x, rfl, hqi, HI2, HO, Hn⟩ := hrel
       replace HI2 := HI2.out
       replace HO := HO.out
       replace Hn := Hn.out
       have hq2 := hqi.out
       have hnl := hnn.out
       clear hqi
       have c0 := HI2.cell hpl hpb h0; have c1 := HI2.cell hpl hpb h1; have c2 := HI2.cell hpl hpb h2; have c3 := HI2.cell hpl hpb h3; have d0 := HI2.cell hgl hgb hg0; have d1 := HI2.cell hgl hgb hg1
       by_cases hi : i < n
       ·obtain ⟨k2, rfl, hq4⟩ := pred_ex hq2 hi
        have i0 := tr_ge i
        have i1 := tr_lt hi
        have i2 := tr_dlt hi
        obtain ⟨cb, cf⟩ := Kd.R_celln false HO (i : Int) (Int.natCast_nonneg _) (Int.ofNat_lt.2 hi)
        rw [Int.toNat_natCast] at cb
        clear cf
        rcases catRow_step (by rw [hol'.out]; exact hi) Hn with ⟨hbi, m, o', hf, hjn, Hn2⟩ | ⟨hbi, Hn2⟩
        ·rw [hbi] at cb
         have Hn' := Aside0.mk Hn2
         clear Hn Hn2 hbi hnl
         go_wp2_with (fail)
         refine (HI2.call ih hbm (fun j hj => ⟨hfr j (Nat.le_trans HI2.kept.1 hj), Nat.ne_of_gt (Nat.lt_of_lt_of_le (Kd.R_lt HO b1 rfl) hj)⟩) (okn := ok) hNd.out (fun k hk e => hR.nok (e ▸ hk)) (fun k hk hlt => ⟨hk, Nat.ne_of_lt (Nat.lt_of_lt_of_le hlt hb1.out.1)⟩) hf).mono ?_
         rintro e W9 ⟨Am, cm, rfl, hm1, hm2, HJ, HKm⟩
         dsimp only
         clear HI2
         clear c0 c1 c2 c3 d0 d1
         have HI2 := HJ
         clear HJ
         replace HO := Kd.R_step HO (fun k hk hlt => HKm.2 k hlt (hk ▸ hb2.out))
         have c0 := HI2.cell hpl hpb h0
         have c1 := HI2.cell hpl hpb h1
         have c2 := HI2.cell hpl hpb h2
         have c3 := HI2.cell hpl hpb h3
         have d0 := HI2.cell hgl hgb hg0
         have d1 := HI2.cell hgl hgb hg1
         go_wp2_with (fail)
         refine (HI2.join hbm hm2 hm1 hjn).mono ?_
         rintro e W10 ⟨rfl, HJ, HKj⟩
         dsimp only
         clear HI2
         clear c0 c1 c2 c3 d0 d1
         have HI2 := HJ
         clear HJ
         replace HO := Kd.R_step HO (fun k hk hlt => HKj.2 k hlt (hk ▸ hne.out))
         have c0 := HI2.cell hpl hpb h0
         have c1 := HI2.cell hpl hpb h1
         have c2 := HI2.cell hpl hpb h2
         have c3 := HI2.cell hpl hpb h3
         have d0 := HI2.cell hgl hgb hg0
         have d1 := HI2.cell hgl hgb hg1
         go_wp2
         go_roundg k2
         case measure => exact Nat.lt_succ_self _
         case rel => exact ⟨i + 1, _, (by first | rfl | go_num), hq4, ⟨HI2⟩, ⟨HO⟩, Hn'⟩
        ·rw [hbi] at cb
         have Hn' := Aside0.mk Hn2
         clear Hn Hn2 hbi hnl
         go_wp2
         go_roundg k2
         case measure => exact Nat.lt_succ_self _
         case rel => exact ⟨i + 1, _, (by first | rfl | go_num), hq4, ⟨HI2⟩, ⟨HO⟩, Hn'⟩
       ·
        have i1 := fl_lt hi
        have i2 := fl_dlt hi
        rw [List.drop_eq_nil_of_le (by rw [hol'.out]; exact Nat.le_of_not_lt hi)] at Hn
        obtain rfl : x = o2 := Option.some.inj Hn
        clear hnl
        go_wp2
        go_roundg k1
        case measure => exact Nat.lt_succ_self _
        case rel => exact ⟨j + 1, _, bx, cx, rfl, (by first | rfl | go_num), hq3, ⟨HI2.weak (fun k hk => hk.1) hR.nok⟩, Hr'⟩
    ·
     have j1 := fl_lt hj
     have j2 := fl_dlt hj
     rw [List.drop_eq_nil_of_le (Nat.le_of_not_lt hj)] at Hn
     obtain rfl : o = r := Option.some.inj Hn
     go_wp2
     go_meet
     case rel => exact ⟨b1, e1, rfl, HI⟩
set_option maxHeartbeats 8000000 in
set_option maxRecDepth 100000 in
theorem end_flat {k : Nat} (ih : EndS k) : EndK k (fun t => t.f0 ≠ 4 ∧ t.f0 ≠ 6 ∧ t.f0 ≠ 5 ∧ t.f0 ≠ 7) := by
 intro t at_ r p g bm Aw cw lw ok w hk h hR hN hfr
 replace hk : t.f0 ≠ 4 ∧ t.f0 ≠ 6 ∧ t.f0 ≠ 5 ∧ t.f0 ≠ 7 := hk
 have hP : PlainAt w p := hN.2.2.1
 have hbm := hR.blt
 obtain ⟨es, clk, hb, he⟩ := hR.map
 obtain ⟨v, b, hrun, hv⟩ := lookup_run w (at_ : Int) hP hb (KeysOk.of he)
 have hg0 : w.cell? ⟨g, 0, none⟩ = some (.slice Aw lw.length cw) := (blk_cell hR.blk 0).trans rfl
 have hg1 : w.cell? ⟨g, 1, none⟩ = some (.map (some bm)) := (blk_cell hR.blk 1).trans rfl
 have hlw : at_ ≤ lw.length ∧ lw.length < 140737488355327 := by
  unfold endF at h
  by_cases hh : at_ ≤ lw.length ∧ lw.length < 140737488355327
  ·exact hh
  ·rw [if_neg hh] at h; cases h
 obtain ⟨n, hn⟩ : ∃ n, n = lw.length + 1 := ⟨_, rfl⟩
 have hw1 : ((lw.length : Int) + 1).toNat = n := by omega
 have hnn := Aside0.mk hn
 clear hn
 go_enter Try.func49, Try.ntmps49
 unfold keyV at hrun
 go_upto_if 29 with (fail)
 cases b with
 | true =>
  obtain ⟨e, hm, hk, rfl⟩ := hv rfl
  obtain ⟨A, c, ev, h1, h2⟩ := found h hN (he e hm) hk
  rw [ev]
  go_wp2
  go_ret
  exact ⟨A, c, rfl, h1, h2, hR, Kept.refl _ _, Same.refl _⟩
 | false =>
  clear hv hrun
  have hpl := hN.lt
  have hgl := hR.glt
  have hgb : g ≠ bm := fun e => hR.nok (e ▸ hR.okg)
  have hpb : p.block ≠ bm := fun e => hR.nok (e ▸ hN.1)
  obtain ⟨pb, po, Ap, cp, rfl, h0, h1, h2, h3, hcp, hF⟩ := hN.open
  go_upto_region 5 with (first | ((with_reducible refine gate_dst (N := 37) rfl ?_); refine Kd.R_make Kd.bool w.heap.size 4 rfl (N := 37) rfl 95 _ _ rfl ((lw.length : Int) + 1) rfl rfl Try.underlying95 (.bool false) 1 info4 rfl (by decide) (by omega) false (ok := fun _ => True) (okp := fun _ => True) rfl (fun _ hk => hk) trivial (by omega) (by rw [hw1]; omega) (Below.refl _ _) (Nat.le_refl _) ?_; intro v1 W hv1 hb1 hg hat; rw [hw1] at hv1; obtain ⟨bo, co, rfl, hbo, hblt, hown⟩ := row_made hnn.out hv1 hat; have HI := Inv.made hnn.out (Same.refl _) (Kept.refl _ _) hR hg hbo hblt hown; clear hv1 hat hown; have c0 := HI.cell hpl hpb h0; have c1 := HI.cell hpl hpb h1; have c2 := HI.cell hpl hpb h2; have c3 := HI.cell hpl hpb h3; have d0 := HI.cell hgl hgb hg0; have d1 := HI.cell hgl hgb hg1))
  go_upto_block 0 with (fail)
  go_cut [9] from 10 (fun s9 wc => ∃ b1 c1, s9 = sv b1 n c1 ∧ Inv w wc ok g bm Aw cw lw n b1 c1 r)
  case rest =>
   clear HI
   obtain ⟨b1, c1, rfl, HI⟩ := hcut
   have c0 := HI.cell hpl hpb h0
   have d0 := HI.cell hgl hgb hg0
   have d1 := HI.cell hgl hgb hg1
   have hb1 := HI.base
   have hNr := HI.node (okn := ok) hN (fun k hk e => hR.nok (e ▸ hk)) (fun k hk _ => hk)
   obtain ⟨es1, clk1, hbr, her⟩ := HI.inv.map
   obtain ⟨es2, clk2, hup, hes2⟩ := update_run wc (at_ : Int) (sv b1 n c1) hNr.2.2.1 hbr (KeysOk.of her)
   unfold keyV at hup
   go_wp2
   obtain ⟨q1, q2, q3, q4⟩ := HI.stored hbm (hfr b1 hb1) hR.nok (hNr.mono (fun k hk => hk.1)) h (by rw [HI.len]; exact (Kd.R_reads' HI.own).2.1) hbr her rfl hes2
   go_ret
   exact ⟨some ⟨b1, 0, none⟩, c1, by rw [HI.len]; rfl, by rw [HI.len]; exact (Kd.R_reads' HI.own).2.1, q1, q2, q3, q4⟩
  case first =>
   have H := h
   unfold endF at H
   rw [if_pos hlw, ← hnn.out] at H
   have hat3 : at_ < n := by have := hnn.out; omega
   have hnm : n ≤ 9223372036854775807 := by have := hnn.out; omega
   have hnk := Aside0.mk (show n * 1 ≤ 281474976710656 by have := hnn.out; omega)
   have hat1 := tr_ge at_
   have hat2 := tr_lt hat3
   by_cases k2 : t.f0 = 2
   ·rw [if_pos k2] at H
    have b2 : (t.f0 == 2) = true := beq_iff_eq.mpr k2
    obtain rfl := Option.some.inj H
    obtain ⟨cb, cf⟩ := HI.cellb at_ hat3
    go_wp2
    go_meet
    case rel => exact ⟨bo, co, rfl, HI.set hbm at_ true⟩
   rw [if_neg k2] at H
   have b2 : (t.f0 == 2) = false := beq_eq_false_iff_ne.mpr k2
   by_cases k3 : t.f0 = 3
   ·rw [if_pos k3] at H
    have b3 : (t.f0 == 3) = true := beq_iff_eq.mpr k3
    by_cases ki : isB lw at_ t.f1 = true
    ·rw [if_pos ki] at H
     obtain rfl := Option.some.inj H
     have hi4 := isB_lt ki hnn.out
     have hi5 := tr_suc hi4
     have hi6 := tr_suc0 at_
     have hi7 := toNat_suc at_
     obtain ⟨cb, cf⟩ := HI.cellb (at_ + 1) hi4
     go_wp2_with (first | ((with_reducible refine gate_callee (f := 69) rfl ?_); refine goesL_ (some 55) rfl rfl Try.func69 (by kernel_rfl) rfl #[.pointer (some ⟨g, 0, none⟩), .int .i64 ((at_ : Nat) : Int), .int .i64 t.f1] rfl (by (try simp only [List.map_toArray, List.map_cons, List.map_nil]); first | done | rfl) ?_; (refine (reader_is_calls HI.inv at_ t.f1).mono ?_); rintro e W9 ⟨rfl, rfl⟩; refine ⟨_, rfl, ?_⟩; rw [ki]))
     go_meet
     case rel => exact ⟨bo, co, rfl, HI.set hbm (at_ + 1) true⟩
    ·rw [if_neg ki] at H
     rw [Bool.not_eq_true] at ki
     obtain rfl := Option.some.inj H
     go_wp2_with (first | ((with_reducible refine gate_callee (f := 69) rfl ?_); refine goesL_ (some 55) rfl rfl Try.func69 (by kernel_rfl) rfl #[.pointer (some ⟨g, 0, none⟩), .int .i64 ((at_ : Nat) : Int), .int .i64 t.f1] rfl (by (try simp only [List.map_toArray, List.map_cons, List.map_nil]); first | done | rfl) ?_; (refine (reader_is_calls HI.inv at_ t.f1).mono ?_); rintro e W9 ⟨rfl, rfl⟩; refine ⟨_, rfl, ?_⟩; rw [ki]))
     go_meet
     case rel => exact ⟨bo, co, rfl, HI⟩
   rw [if_neg k3] at H
   have b3 : (t.f0 == 3) = false := beq_eq_false_iff_ne.mpr k3
   by_cases k4 : t.f0 = 4
   ·rw [if_pos k4] at H
    have b4 : (t.f0 == 4) = true := beq_iff_eq.mpr k4
    exact absurd k4 hk.1
   rw [if_neg k4] at H
   have b4 : (t.f0 == 4) = false := beq_eq_false_iff_ne.mpr k4
   by_cases k6 : t.f0 = 6
   ·rw [if_pos k6] at H
    have b6 : (t.f0 == 6) = true := beq_iff_eq.mpr k6
    exact absurd k6 hk.2.1
   rw [if_neg k6] at H
   have b6 : (t.f0 == 6) = false := beq_eq_false_iff_ne.mpr k6
   by_cases k5 : t.f0 = 5
   ·rw [if_pos k5] at H
    have b5 : (t.f0 == 5) = true := beq_iff_eq.mpr k5
    exact absurd k5 hk.2.2.1
   rw [if_neg k5] at H
   have b5 : (t.f0 == 5) = false := beq_eq_false_iff_ne.mpr k5
   by_cases k7 : t.f0 = 7
   ·rw [if_pos k7] at H
    have b7 : (t.f0 == 7) = true := beq_iff_eq.mpr k7
    exact absurd k7 hk.2.2.2
   rw [if_neg k7] at H
   have b7 : (t.f0 == 7) = false := beq_eq_false_iff_ne.mpr k7
   obtain rfl := Option.some.inj H
   go_wp2
   go_meet
   case rel => exact ⟨bo, co, rfl, HI⟩
set_option maxHeartbeats 8000000 in
set_option maxRecDepth 100000 in
theorem end_nest {k : Nat} (ih : EndS k) : EndK k (fun t => t.f0 = 4) := by
 intro t at_ r p g bm Aw cw lw ok w hk h hR hN hfr
 replace hk : t.f0 = 4 := hk
 have hP : PlainAt w p := hN.2.2.1
 have hbm := hR.blt
 obtain ⟨es, clk, hb, he⟩ := hR.map
 obtain ⟨v, b, hrun, hv⟩ := lookup_run w (at_ : Int) hP hb (KeysOk.of he)
 have hg0 : w.cell? ⟨g, 0, none⟩ = some (.slice Aw lw.length cw) := (blk_cell hR.blk 0).trans rfl
 have hg1 : w.cell? ⟨g, 1, none⟩ = some (.map (some bm)) := (blk_cell hR.blk 1).trans rfl
 have hlw : at_ ≤ lw.length ∧ lw.length < 140737488355327 := by
  unfold endF at h
  by_cases hh : at_ ≤ lw.length ∧ lw.length < 140737488355327
  ·exact hh
  ·rw [if_neg hh] at h; cases h
 obtain ⟨n, hn⟩ : ∃ n, n = lw.length + 1 := ⟨_, rfl⟩
 have hw1 : ((lw.length : Int) + 1).toNat = n := by omega
 have hnn := Aside0.mk hn
 clear hn
 go_enter Try.func49, Try.ntmps49
 unfold keyV at hrun
 go_upto_if 29 with (fail)
 cases b with
 | true =>
  obtain ⟨e, hm, hk, rfl⟩ := hv rfl
  obtain ⟨A, c, ev, h1, h2⟩ := found h hN (he e hm) hk
  rw [ev]
  go_wp2
  go_ret
  exact ⟨A, c, rfl, h1, h2, hR, Kept.refl _ _, Same.refl _⟩
 | false =>
  clear hv hrun
  have hpl := hN.lt
  have hgl := hR.glt
  have hgb : g ≠ bm := fun e => hR.nok (e ▸ hR.okg)
  have hpb : p.block ≠ bm := fun e => hR.nok (e ▸ hN.1)
  obtain ⟨pb, po, Ap, cp, rfl, h0, h1, h2, h3, hcp, hF⟩ := hN.open
  go_upto_region 5 with (first | ((with_reducible refine gate_dst (N := 37) rfl ?_); refine Kd.R_make Kd.bool w.heap.size 4 rfl (N := 37) rfl 95 _ _ rfl ((lw.length : Int) + 1) rfl rfl Try.underlying95 (.bool false) 1 info4 rfl (by decide) (by omega) false (ok := fun _ => True) (okp := fun _ => True) rfl (fun _ hk => hk) trivial (by omega) (by rw [hw1]; omega) (Below.refl _ _) (Nat.le_refl _) ?_; intro v1 W hv1 hb1 hg hat; rw [hw1] at hv1; obtain ⟨bo, co, rfl, hbo, hblt, hown⟩ := row_made hnn.out hv1 hat; have HI := Inv.made hnn.out (Same.refl _) (Kept.refl _ _) hR hg hbo hblt hown; clear hv1 hat hown; have c0 := HI.cell hpl hpb h0; have c1 := HI.cell hpl hpb h1; have c2 := HI.cell hpl hpb h2; have c3 := HI.cell hpl hpb h3; have d0 := HI.cell hgl hgb hg0; have d1 := HI.cell hgl hgb hg1))
  go_upto_block 0 with (fail)
  go_cut [9] from 10 (fun s9 wc => ∃ b1 c1, s9 = sv b1 n c1 ∧ Inv w wc ok g bm Aw cw lw n b1 c1 r)
  case rest =>
   clear HI
   obtain ⟨b1, c1, rfl, HI⟩ := hcut
   have c0 := HI.cell hpl hpb h0
   have d0 := HI.cell hgl hgb hg0
   have d1 := HI.cell hgl hgb hg1
   have hb1 := HI.base
   have hNr := HI.node (okn := ok) hN (fun k hk e => hR.nok (e ▸ hk)) (fun k hk _ => hk)
   obtain ⟨es1, clk1, hbr, her⟩ := HI.inv.map
   obtain ⟨es2, clk2, hup, hes2⟩ := update_run wc (at_ : Int) (sv b1 n c1) hNr.2.2.1 hbr (KeysOk.of her)
   unfold keyV at hup
   go_wp2
   obtain ⟨q1, q2, q3, q4⟩ := HI.stored hbm (hfr b1 hb1) hR.nok (hNr.mono (fun k hk => hk.1)) h (by rw [HI.len]; exact (Kd.R_reads' HI.own).2.1) hbr her rfl hes2
   go_ret
   exact ⟨some ⟨b1, 0, none⟩, c1, by rw [HI.len]; rfl, by rw [HI.len]; exact (Kd.R_reads' HI.own).2.1, q1, q2, q3, q4⟩
  case first =>
   have H := h
   unfold endF at H
   rw [if_pos hlw, ← hnn.out] at H
   have hat3 : at_ < n := by have := hnn.out; omega
   have hnm : n ≤ 9223372036854775807 := by have := hnn.out; omega
   have hnk := Aside0.mk (show n * 1 ≤ 281474976710656 by have := hnn.out; omega)
   have hat1 := tr_ge at_
   have hat2 := tr_lt hat3
   have k2 : ¬ t.f0 = 2 := by rw [hk]; decide
   rw [if_neg k2] at H
   have b2 : (t.f0 == 2) = false := beq_eq_false_iff_ne.mpr k2
   have k3 : ¬ t.f0 = 3 := by rw [hk]; decide
   rw [if_neg k3] at H
   have b3 : (t.f0 == 3) = false := beq_eq_false_iff_ne.mpr k3
   rw [if_pos hk] at H
   have b4 : (t.f0 == 4) = true := beq_iff_eq.mpr hk
   by_cases kl : t.f3.length = 1
   ·have bl : ((t.f3.length : Int) == 1) = true := by rw [kl]; rfl
    by_cases ki : isB lw at_ t.f1 = true
    ·rw [if_pos ⟨kl, ki⟩] at H
     obtain ⟨m, hf, H⟩ := bind_some H
     have H := Option.some.inj H
     have H' := Aside0.mk H
     clear H
     have hl0 : (0 < (t.f3.length : Int)) = True := eq_true (by rw [kl]; decide)
     obtain ⟨qb, qo, e, hNc⟩ := F_child hF 0 (by rw [kl]; decide)
     subst e
     have hNd := Aside0.mk hNc
     clear hNc
     go_wp2_with (first | ((refine (reader_is_calls HI.inv at_ t.f1).mono ?_); rintro e W9 ⟨rfl, rfl⟩; rw [ki]; dsimp only) | fail)
     refine (HI.call ih hbm (fun j hj => hfr j (Nat.le_trans HI.kept.1 hj)) (okn := ok) hNd.out (fun k hk e => hR.nok (e ▸ hk)) (fun k hk _ => hk) hf).mono ?_
     rintro e W9 ⟨Am, cm, rfl, hm1, hm2, HJ, HKm⟩
     dsimp only
     clear HI
     clear c0 c1 c2 c3 d0 d1
     have HI := HJ
     clear HJ
     have c0 := HI.cell hpl hpb h0
     have c1 := HI.cell hpl hpb h1
     have c2 := HI.cell hpl hpb h2
     have c3 := HI.cell hpl hpb h3
     have d0 := HI.cell hgl hgb hg0
     have d1 := HI.cell hgl hgb hg1
     go_wp2
     go_loopg [87] m.length (fun kq s87 wr => ∃ (j : Nat) (o : List Bool), s87 = .int .i64 (j : Int) ∧ Aside0 (kq + j = m.length) ∧ Aside0 (Inv w wr ok g bm Aw cw lw n bo co o) ∧ Aside0 (nestL lw t.f2 (m.drop j) j o = r) ∧ Aside0 (Kd.F Kd.bool wr (fun k => ok k ∧ k ≠ bo) Am m.length m))
     case atStart => exact ⟨0, _, rfl, ⟨rfl⟩, ⟨HI⟩, H', ⟨hm2⟩⟩
     case round =>
      have hmm : m.length ≤ 9223372036854775807 := Kd.C_max (Kd.F_now hm2)
      clear HI hm2 H' HKm
      clear c0 c1 c2 c3 d0 d1
      obtain ⟨j, o, rfl, hq, HI, Hn, hm2⟩ := hrel
      replace HI := HI.out
      replace hm2 := hm2.out
      replace Hn := Hn.out
      have hq1 := hq.out
      have c0 := HI.cell hpl hpb h0; have c1 := HI.cell hpl hpb h1; have c2 := HI.cell hpl hpb h2; have c3 := HI.cell hpl hpb h3; have d0 := HI.cell hgl hgb hg0; have d1 := HI.cell hgl hgb hg1
      by_cases hj : j < m.length
      ·obtain ⟨k1, rfl, hq3⟩ := pred_ex hq1 hj
       have j0 := tr_ge j
       have j1 := tr_lt hj
       have j2 := tr_dlt hj
       obtain ⟨ad, e, hx⟩ := Kd.at_bool (Kd.F_now hm2) (j : Int) (Int.natCast_nonneg _) (Int.ofNat_lt.2 hj)
       rw [Int.toNat_natCast] at hx
       subst e
       rw [nestL_step hj] at Hn
       cases hbj : rdOf false m (j : Int) with
       | true =>
        rw [hbj] at hx
        by_cases kj : isB lw j t.f2 = true
        ·rw [hbj, kj, Bool.true_and, if_pos rfl] at Hn
         have Hn' := Aside0.mk Hn
         clear Hn hbj hq
         have hi4 := isB_lt kj hnn.out
         have hi5 := tr_suc hi4
         have hi6 := tr_suc0 j
         have hi7 := toNat_suc j
         obtain ⟨cb, cf⟩ := HI.cellb (j + 1) hi4
         go_wp2_with (first | ((refine (reader_is_calls HI.inv j t.f2).mono ?_); rintro e W9 ⟨rfl, rfl⟩; rw [kj]; dsimp only))
         go_roundg k1
         case measure => exact Nat.lt_succ_self _
         case rel => exact ⟨j + 1, _, (by first | rfl | go_num), hq3, ⟨HI.set hbm (j + 1) true⟩, Hn', ⟨Kd.F_far hm2 (p := ⟨bo, j + 1, none⟩) (fun k hk => hk.2) _⟩⟩
        ·rw [Bool.not_eq_true] at kj
         rw [hbj, kj, Bool.true_and, if_neg (by decide)] at Hn
         have Hn' := Aside0.mk Hn
         clear Hn hbj
         go_wp2_with (first | ((refine (reader_is_calls HI.inv j t.f2).mono ?_); rintro e W9 ⟨rfl, rfl⟩; rw [kj]; dsimp only))
         go_roundg k1
         case measure => exact Nat.lt_succ_self _
         case rel => exact ⟨j + 1, _, (by first | rfl | go_num), hq3, ⟨HI⟩, Hn', ⟨hm2⟩⟩
       | false =>
        rw [hbj] at hx
        rw [hbj, Bool.false_and, if_neg (by decide)] at Hn
        have Hn' := Aside0.mk Hn
        clear Hn hbj
        go_wp2
        go_roundg k1
        case measure => exact Nat.lt_succ_self _
        case rel => exact ⟨j + 1, _, (by first | rfl | go_num), hq3, ⟨HI⟩, Hn', ⟨hm2⟩⟩
      ·
       have j1 := fl_lt hj
       have j2 := fl_dlt hj
       rw [List.drop_eq_nil_of_le (Nat.le_of_not_lt hj)] at Hn
       obtain rfl : o = r := Hn
       go_wp2
       go_meet
       case rel => exact ⟨bo, co, rfl, HI⟩
    ·rw [if_neg (fun hh => ki hh.2)] at H
     rw [Bool.not_eq_true] at ki
     obtain rfl := Option.some.inj H
     go_wp2_with (first | ((refine (reader_is_calls HI.inv at_ t.f1).mono ?_); rintro e W9 ⟨rfl, rfl⟩; rw [ki]; dsimp only))
     go_meet
     case rel => exact ⟨bo, co, rfl, HI⟩
   ·have bl := ne_one kl
    rw [if_neg (fun hh => kl hh.1)] at H
    obtain rfl := Option.some.inj H
    go_wp2
    go_meet
    case rel => exact ⟨bo, co, rfl, HI⟩
set_option maxHeartbeats 8000000 in
set_option maxRecDepth 100000 in
theorem end_or {k : Nat} (ih : EndS k) : EndK k (fun t => t.f0 = 6) := by
 intro t at_ r p g bm Aw cw lw ok w hk h hR hN hfr
 replace hk : t.f0 = 6 := hk
 have hP : PlainAt w p := hN.2.2.1
 have hbm := hR.blt
 obtain ⟨es, clk, hb, he⟩ := hR.map
 obtain ⟨v, b, hrun, hv⟩ := lookup_run w (at_ : Int) hP hb (KeysOk.of he)
 have hg0 : w.cell? ⟨g, 0, none⟩ = some (.slice Aw lw.length cw) := (blk_cell hR.blk 0).trans rfl
 have hg1 : w.cell? ⟨g, 1, none⟩ = some (.map (some bm)) := (blk_cell hR.blk 1).trans rfl
 have hlw : at_ ≤ lw.length ∧ lw.length < 140737488355327 := by
  unfold endF at h
  by_cases hh : at_ ≤ lw.length ∧ lw.length < 140737488355327
  ·exact hh
  ·rw [if_neg hh] at h; cases h
 obtain ⟨n, hn⟩ : ∃ n, n = lw.length + 1 := ⟨_, rfl⟩
 have hw1 : ((lw.length : Int) + 1).toNat = n := by omega
 have hnn := Aside0.mk hn
 clear hn
 go_enter Try.func49, Try.ntmps49
 unfold keyV at hrun
 go_upto_if 29 with (fail)
 cases b with
 | true =>
  obtain ⟨e, hm, hk, rfl⟩ := hv rfl
  obtain ⟨A, c, ev, h1, h2⟩ := found h hN (he e hm) hk
  rw [ev]
  go_wp2
  go_ret
  exact ⟨A, c, rfl, h1, h2, hR, Kept.refl _ _, Same.refl _⟩
 | false =>
  clear hv hrun
  have hpl := hN.lt
  have hgl := hR.glt
  have hgb : g ≠ bm := fun e => hR.nok (e ▸ hR.okg)
  have hpb : p.block ≠ bm := fun e => hR.nok (e ▸ hN.1)
  obtain ⟨pb, po, Ap, cp, rfl, h0, h1, h2, h3, hcp, hF⟩ := hN.open
  go_upto_region 5 with (first | ((with_reducible refine gate_dst (N := 37) rfl ?_); refine Kd.R_make Kd.bool w.heap.size 4 rfl (N := 37) rfl 95 _ _ rfl ((lw.length : Int) + 1) rfl rfl Try.underlying95 (.bool false) 1 info4 rfl (by decide) (by omega) false (ok := fun _ => True) (okp := fun _ => True) rfl (fun _ hk => hk) trivial (by omega) (by rw [hw1]; omega) (Below.refl _ _) (Nat.le_refl _) ?_; intro v1 W hv1 hb1 hg hat; rw [hw1] at hv1; obtain ⟨bo, co, rfl, hbo, hblt, hown⟩ := row_made hnn.out hv1 hat; have HI := Inv.made hnn.out (Same.refl _) (Kept.refl _ _) hR hg hbo hblt hown; clear hv1 hat hown; have c0 := HI.cell hpl hpb h0; have c1 := HI.cell hpl hpb h1; have c2 := HI.cell hpl hpb h2; have c3 := HI.cell hpl hpb h3; have d0 := HI.cell hgl hgb hg0; have d1 := HI.cell hgl hgb hg1))
  go_upto_block 0 with (fail)
  go_cut [9] from 10 (fun s9 wc => ∃ b1 c1, s9 = sv b1 n c1 ∧ Inv w wc ok g bm Aw cw lw n b1 c1 r)
  case rest =>
   clear HI
   obtain ⟨b1, c1, rfl, HI⟩ := hcut
   have c0 := HI.cell hpl hpb h0
   have d0 := HI.cell hgl hgb hg0
   have d1 := HI.cell hgl hgb hg1
   have hb1 := HI.base
   have hNr := HI.node (okn := ok) hN (fun k hk e => hR.nok (e ▸ hk)) (fun k hk _ => hk)
   obtain ⟨es1, clk1, hbr, her⟩ := HI.inv.map
   obtain ⟨es2, clk2, hup, hes2⟩ := update_run wc (at_ : Int) (sv b1 n c1) hNr.2.2.1 hbr (KeysOk.of her)
   unfold keyV at hup
   go_wp2
   obtain ⟨q1, q2, q3, q4⟩ := HI.stored hbm (hfr b1 hb1) hR.nok (hNr.mono (fun k hk => hk.1)) h (by rw [HI.len]; exact (Kd.R_reads' HI.own).2.1) hbr her rfl hes2
   go_ret
   exact ⟨some ⟨b1, 0, none⟩, c1, by rw [HI.len]; rfl, by rw [HI.len]; exact (Kd.R_reads' HI.own).2.1, q1, q2, q3, q4⟩
  case first =>
   have H := h
   unfold endF at H
   rw [if_pos hlw, ← hnn.out] at H
   have hat3 : at_ < n := by have := hnn.out; omega
   have hnm : n ≤ 9223372036854775807 := by have := hnn.out; omega
   have hnk := Aside0.mk (show n * 1 ≤ 281474976710656 by have := hnn.out; omega)
   have hat1 := tr_ge at_
   have hat2 := tr_lt hat3
   have k2 : ¬ t.f0 = 2 := by rw [hk]; decide
   rw [if_neg k2] at H
   have b2 : (t.f0 == 2) = false := beq_eq_false_iff_ne.mpr k2
   have k3 : ¬ t.f0 = 3 := by rw [hk]; decide
   rw [if_neg k3] at H
   have b3 : (t.f0 == 3) = false := beq_eq_false_iff_ne.mpr k3
   have k4 : ¬ t.f0 = 4 := by rw [hk]; decide
   rw [if_neg k4] at H
   have b4 : (t.f0 == 4) = false := beq_eq_false_iff_ne.mpr k4
   rw [if_pos hk] at H
   have b6 : (t.f0 == 6) = true := beq_iff_eq.mpr hk
   have H' := Aside0.mk H
   clear H
   have hFl : t.f3.length ≤ 9223372036854775807 := Kd.C_max (Kd.F_now hF)
   go_wp2
   go_loopg [114] t.f3.length (fun kq s wr => ∃ (j : Nat) (o : List Bool), s = .int .i64 (j : Int) ∧ Aside0 (kq + j = t.f3.length) ∧ Aside0 (Inv w wr ok g bm Aw cw lw n bo co o) ∧ Aside0 (orL (fun c => endF k c at_ lw) (t.f3.drop j) o = some r))
   case atStart => exact ⟨0, _, rfl, ⟨rfl⟩, ⟨HI⟩, H'⟩
   case round =>
    clear HI H'
    clear c0 c1 c2 c3 d0 d1
    obtain ⟨j, o, rfl, hq, HI, Hn⟩ := hrel
    replace HI := HI.out
    replace Hn := Hn.out
    have hq1 := hq.out
    have c0 := HI.cell hpl hpb h0; have c1 := HI.cell hpl hpb h1; have c2 := HI.cell hpl hpb h2; have c3 := HI.cell hpl hpb h3; have d0 := HI.cell hgl hgb hg0; have d1 := HI.cell hgl hgb hg1
    by_cases hj : j < t.f3.length
    ·obtain ⟨k1, rfl, hq3⟩ := pred_ex hq1 hj
     have j0 := tr_ge j
     have j1 := tr_lt hj
     have j2 := tr_dlt hj
     obtain ⟨m, o', hf, hjn, Hr⟩ := orL_step hj Hn
     have Hr' := Aside0.mk Hr
     clear Hn Hr
     obtain ⟨qb, qo, e, hNc⟩ := F_row hF j hj
     subst e
     have hNd := Aside0.mk hNc
     clear hNc
     go_wp2_with (fail)
     refine (HI.call ih hbm (fun j hj => hfr j (Nat.le_trans HI.kept.1 hj)) (okn := ok) hNd.out (fun k hk e => hR.nok (e ▸ hk)) (fun k hk _ => hk) hf).mono ?_
     rintro e W9 ⟨Am, cm, rfl, hm1, hm2, HJ, HKm⟩
     dsimp only
     clear HI
     clear c0 c1 c2 c3 d0 d1
     have HI := HJ
     clear HJ
     have c0 := HI.cell hpl hpb h0
     have c1 := HI.cell hpl hpb h1
     have c2 := HI.cell hpl hpb h2
     have c3 := HI.cell hpl hpb h3
     have d0 := HI.cell hgl hgb hg0
     have d1 := HI.cell hgl hgb hg1
     go_wp2_with (fail)
     refine (HI.join hbm hm2 hm1 hjn).mono ?_
     rintro e W10 ⟨rfl, HJ, HKj⟩
     dsimp only
     clear HI
     clear c0 c1 c2 c3 d0 d1
     have HI := HJ
     clear HJ
     have c0 := HI.cell hpl hpb h0
     have c1 := HI.cell hpl hpb h1
     have c2 := HI.cell hpl hpb h2
     have c3 := HI.cell hpl hpb h3
     have d0 := HI.cell hgl hgb hg0
     have d1 := HI.cell hgl hgb hg1
     go_wp2
     go_roundg k1
     case measure => exact Nat.lt_succ_self _
     case rel => exact ⟨j + 1, _, (by first | rfl | go_num), hq3, ⟨HI⟩, Hr'⟩
    ·
     have j1 := fl_lt hj
     have j2 := fl_dlt hj
     rw [List.drop_eq_nil_of_le (Nat.le_of_not_lt hj)] at Hn
     obtain rfl : o = r := Option.some.inj Hn
     go_wp2
     go_meet
     case rel => exact ⟨bo, co, rfl, HI⟩
set_option maxHeartbeats 8000000 in
set_option maxRecDepth 100000 in
theorem end_star {k : Nat} (ih : EndS k) : EndK k (fun t => t.f0 = 7) := by
 intro t at_ r p g bm Aw cw lw ok w hk h hR hN hfr
 replace hk : t.f0 = 7 := hk
 have hP : PlainAt w p := hN.2.2.1
 have hbm := hR.blt
 obtain ⟨es, clk, hb, he⟩ := hR.map
 obtain ⟨v, b, hrun, hv⟩ := lookup_run w (at_ : Int) hP hb (KeysOk.of he)
 have hg0 : w.cell? ⟨g, 0, none⟩ = some (.slice Aw lw.length cw) := (blk_cell hR.blk 0).trans rfl
 have hg1 : w.cell? ⟨g, 1, none⟩ = some (.map (some bm)) := (blk_cell hR.blk 1).trans rfl
 have hlw : at_ ≤ lw.length ∧ lw.length < 140737488355327 := by
  unfold endF at h
  by_cases hh : at_ ≤ lw.length ∧ lw.length < 140737488355327
  ·exact hh
  ·rw [if_neg hh] at h; cases h
 obtain ⟨n, hn⟩ : ∃ n, n = lw.length + 1 := ⟨_, rfl⟩
 have hw1 : ((lw.length : Int) + 1).toNat = n := by omega
 have hnn := Aside0.mk hn
 clear hn
 go_enter Try.func49, Try.ntmps49
 unfold keyV at hrun
 go_upto_if 29 with (fail)
 cases b with
 | true =>
  obtain ⟨e, hm, hk, rfl⟩ := hv rfl
  obtain ⟨A, c, ev, h1, h2⟩ := found h hN (he e hm) hk
  rw [ev]
  go_wp2
  go_ret
  exact ⟨A, c, rfl, h1, h2, hR, Kept.refl _ _, Same.refl _⟩
 | false =>
  clear hv hrun
  have hpl := hN.lt
  have hgl := hR.glt
  have hgb : g ≠ bm := fun e => hR.nok (e ▸ hR.okg)
  have hpb : p.block ≠ bm := fun e => hR.nok (e ▸ hN.1)
  obtain ⟨pb, po, Ap, cp, rfl, h0, h1, h2, h3, hcp, hF⟩ := hN.open
  go_upto_region 5 with (first | ((with_reducible refine gate_dst (N := 37) rfl ?_); refine Kd.R_make Kd.bool w.heap.size 4 rfl (N := 37) rfl 95 _ _ rfl ((lw.length : Int) + 1) rfl rfl Try.underlying95 (.bool false) 1 info4 rfl (by decide) (by omega) false (ok := fun _ => True) (okp := fun _ => True) rfl (fun _ hk => hk) trivial (by omega) (by rw [hw1]; omega) (Below.refl _ _) (Nat.le_refl _) ?_; intro v1 W hv1 hb1 hg hat; rw [hw1] at hv1; obtain ⟨bo, co, rfl, hbo, hblt, hown⟩ := row_made hnn.out hv1 hat; have HI := Inv.made hnn.out (Same.refl _) (Kept.refl _ _) hR hg hbo hblt hown; clear hv1 hat hown; have c0 := HI.cell hpl hpb h0; have c1 := HI.cell hpl hpb h1; have c2 := HI.cell hpl hpb h2; have c3 := HI.cell hpl hpb h3; have d0 := HI.cell hgl hgb hg0; have d1 := HI.cell hgl hgb hg1))
  go_upto_block 0 with (fail)
  go_cut [9] from 10 (fun s9 wc => ∃ b1 c1, s9 = sv b1 n c1 ∧ Inv w wc ok g bm Aw cw lw n b1 c1 r)
  case rest =>
   clear HI
   obtain ⟨b1, c1, rfl, HI⟩ := hcut
   have c0 := HI.cell hpl hpb h0
   have d0 := HI.cell hgl hgb hg0
   have d1 := HI.cell hgl hgb hg1
   have hb1 := HI.base
   have hNr := HI.node (okn := ok) hN (fun k hk e => hR.nok (e ▸ hk)) (fun k hk _ => hk)
   obtain ⟨es1, clk1, hbr, her⟩ := HI.inv.map
   obtain ⟨es2, clk2, hup, hes2⟩ := update_run wc (at_ : Int) (sv b1 n c1) hNr.2.2.1 hbr (KeysOk.of her)
   unfold keyV at hup
   go_wp2
   obtain ⟨q1, q2, q3, q4⟩ := HI.stored hbm (hfr b1 hb1) hR.nok (hNr.mono (fun k hk => hk.1)) h (by rw [HI.len]; exact (Kd.R_reads' HI.own).2.1) hbr her rfl hes2
   go_ret
   exact ⟨some ⟨b1, 0, none⟩, c1, by rw [HI.len]; rfl, by rw [HI.len]; exact (Kd.R_reads' HI.own).2.1, q1, q2, q3, q4⟩
  case first =>
   have H := h
   unfold endF at H
   rw [if_pos hlw, ← hnn.out] at H
   have hat3 : at_ < n := by have := hnn.out; omega
   have hnm : n ≤ 9223372036854775807 := by have := hnn.out; omega
   have hnk := Aside0.mk (show n * 1 ≤ 281474976710656 by have := hnn.out; omega)
   have hat1 := tr_ge at_
   have hat2 := tr_lt hat3
   have k2 : ¬ t.f0 = 2 := by rw [hk]; decide
   rw [if_neg k2] at H
   have b2 : (t.f0 == 2) = false := beq_eq_false_iff_ne.mpr k2
   have k3 : ¬ t.f0 = 3 := by rw [hk]; decide
   rw [if_neg k3] at H
   have b3 : (t.f0 == 3) = false := beq_eq_false_iff_ne.mpr k3
   have k4 : ¬ t.f0 = 4 := by rw [hk]; decide
   rw [if_neg k4] at H
   have b4 : (t.f0 == 4) = false := beq_eq_false_iff_ne.mpr k4
   have k6 : ¬ t.f0 = 6 := by rw [hk]; decide
   rw [if_neg k6] at H
   have b6 : (t.f0 == 6) = false := beq_eq_false_iff_ne.mpr k6
   have k5 : ¬ t.f0 = 5 := by rw [hk]; decide
   rw [if_neg k5] at H
   have b5 : (t.f0 == 5) = false := beq_eq_false_iff_ne.mpr k5
   rw [if_pos hk] at H
   have b7 : (t.f0 == 7) = true := beq_iff_eq.mpr hk
   obtain ⟨cb, cf⟩ := HI.cellb at_ hat3
   go_upto_region 41 with (fail)
   have HJ := HI.set hbm at_ true
   clear HI cb cf
   clear c0 c1 c2 c3 d0 d1
   generalize World.setCell _ _ _ = W5 at HJ ⊢
   have HI := HJ
   clear HJ
   have c0 := HI.cell hpl hpb h0; have c1 := HI.cell hpl hpb h1; have c2 := HI.cell hpl hpb h2; have c3 := HI.cell hpl hpb h3; have d0 := HI.cell hgl hgb hg0; have d1 := HI.cell hgl hgb hg1
   by_cases kl : t.f3.length = 1
   ·have bl : ((t.f3.length : Int) == 1) = true := by rw [kl]; rfl
    rw [if_pos kl] at H
    have H' := Aside0.mk H
    clear H
    have hl0 : (0 < (t.f3.length : Int)) = True := eq_true (by rw [kl]; decide)
    obtain ⟨qb, qo, e, hNc⟩ := F_child hF 0 (by rw [kl]; decide)
    subst e
    have hNd := Aside0.mk hNc
    clear hNc
    go_wp2
    go_loopg [17] (lw.length + 3) (fun kq s wr => ∃ (j : Nat) (o : List Bool), s = .int .i64 (j : Int) ∧ Aside0 (Inv w wr ok g bm Aw cw lw n bo co o) ∧ Aside0 (starL (fun j => endF k (t.f3.getD 0 z28) j lw) kq j o = some r))
    case atStart => exact ⟨at_, _, rfl, ⟨HI⟩, H'⟩
    case round =>
     clear HI H'
     clear c0 c1 c2 c3 d0 d1
     obtain ⟨j, o, rfl, HI, Hn⟩ := hrel
     replace HI := HI.out
     replace Hn := Hn.out
     have c0 := HI.cell hpl hpb h0; have c1 := HI.cell hpl hpb h1; have c2 := HI.cell hpl hpb h2; have c3 := HI.cell hpl hpb h3; have d0 := HI.cell hgl hgb hg0; have d1 := HI.cell hgl hgb hg1
     have hol := HI.len
     have hnl := hnn.out
     by_cases hj : j < n
     ·obtain ⟨q1, rfl, hc⟩ := starL_step (by rw [hol]; exact hj) Hn
      clear Hn
      have j0 := tr_ge j
      have j1 := tr_lt hj
      have j2 := tr_dlt hj
      obtain ⟨cb, cf⟩ := HI.cellb j hj
      clear cf hol hnl
      rcases hc with ⟨hbi, m, o', hf, hjn, Hn2⟩ | ⟨hbi, Hn2⟩
      ·rw [hbi] at cb
       have Hn' := Aside0.mk Hn2
       clear Hn2 hbi
       go_wp2_with (fail)
       refine (HI.call ih hbm (fun j hj => hfr j (Nat.le_trans HI.kept.1 hj)) (okn := ok) hNd.out (fun k hk e => hR.nok (e ▸ hk)) (fun k hk _ => hk) hf).mono ?_
       rintro e W9 ⟨Am, cm, rfl, hm1, hm2, HJ, HKm⟩
       dsimp only
       clear HI
       clear c0 c1 c2 c3 d0 d1
       have HI := HJ
       clear HJ
       have c0 := HI.cell hpl hpb h0
       have c1 := HI.cell hpl hpb h1
       have c2 := HI.cell hpl hpb h2
       have c3 := HI.cell hpl hpb h3
       have d0 := HI.cell hgl hgb hg0
       have d1 := HI.cell hgl hgb hg1
       go_wp2_with (fail)
       refine (HI.join hbm hm2 hm1 hjn).mono ?_
       rintro e W10 ⟨rfl, HJ, HKj⟩
       dsimp only
       clear HI
       clear c0 c1 c2 c3 d0 d1
       have HI := HJ
       clear HJ
       have c0 := HI.cell hpl hpb h0
       have c1 := HI.cell hpl hpb h1
       have c2 := HI.cell hpl hpb h2
       have c3 := HI.cell hpl hpb h3
       have d0 := HI.cell hgl hgb hg0
       have d1 := HI.cell hgl hgb hg1
       go_wp2
       go_roundg q1
       case measure => exact Nat.lt_succ_self _
       case rel => exact ⟨j + 1, _, (by first | rfl | go_num), ⟨HI⟩, Hn'⟩
      ·rw [hbi] at cb
       have Hn' := Aside0.mk Hn2
       clear Hn2 hbi
       go_wp2
       go_roundg q1
       case measure => exact Nat.lt_succ_self _
       case rel => exact ⟨j + 1, _, (by first | rfl | go_num), ⟨HI⟩, Hn'⟩
     ·
      have j1 := fl_lt hj
      have j2 := fl_dlt hj
      obtain rfl := starL_end (by rw [hol]; exact hj) Hn
      clear hol hnl
      go_wp2
      go_meet
      case rel => exact ⟨bo, co, rfl, HI⟩
   ·have bl := ne_one kl
    rw [if_neg kl] at H
    obtain rfl := Option.some.inj H
    go_wp2
    go_loopg [17] 0 (fun kq s wr => s = .int .i64 (at_ : Int) ∧ Aside0 (Inv w wr ok g bm Aw cw lw n bo co ((List.replicate n false).set at_ true)))
    case atStart => exact ⟨rfl, ⟨HI⟩⟩
    case round =>
     clear HI
     clear c0 c1 c2 c3 d0 d1
     obtain ⟨rfl, HI⟩ := hrel
     replace HI := HI.out
     have c0 := HI.cell hpl hpb h0; have c1 := HI.cell hpl hpb h1; have c2 := HI.cell hpl hpb h2; have c3 := HI.cell hpl hpb h3; have d0 := HI.cell hgl hgb hg0; have d1 := HI.cell hgl hgb hg1
     have j2 := tr_dlt hat3
     go_wp2
     go_meet
     case rel => exact ⟨bo, co, rfl, HI⟩
theorem end_calls (k : Nat) : EndS k := by
 induction k with
 | zero => exact fun t at_ r p g bm Aw cw lw ok W h => absurd h (by simp [endF])
 | succ k ih =>
  intro t at_ r p g bm Aw cw lw ok W h hR hN hfr
  by_cases h4 : t.f0 = 4
  ·exact end_nest ih t at_ r p g bm Aw cw lw ok W h4 h hR hN hfr
  by_cases h6 : t.f0 = 6
  ·exact end_or ih t at_ r p g bm Aw cw lw ok W h6 h hR hN hfr
  by_cases h5 : t.f0 = 5
  ·exact end_cat ih t at_ r p g bm Aw cw lw ok W h5 h hR hN hfr
  by_cases h7 : t.f0 = 7
  ·exact end_star ih t at_ r p g bm Aw cw lw ok W h7 h hR hN hfr
  exact end_flat ih t at_ r p g bm Aw cw lw ok W ⟨h4, h6, h5, h7⟩ h hR hN hfr
abbrev hasW (w : World) (t : S28) (A3 : Option Addr) (c3 : Nat) (A1 : Option Addr) (c1 n : Nat) : World :=
 ((w.alloc (.cells #[.int .i64 t.f0, .int .i64 t.f1, .int .i64 t.f2, .slice A3 t.f3.length c3] 28)).alloc (.map #[] 0)).alloc (.cells #[.slice A1 n c1, .map (some (w.heap.size + 1))] 94)
theorem has_heap (w : World) (t : S28) (A3 : Option Addr) (c3 : Nat) (A1 : Option Addr) (c1 n : Nat) : (hasW w t A3 c3 A1 c1 n).heap[w.heap.size]? = some (.cells #[.int .i64 t.f0, .int .i64 t.f1, .int .i64 t.f2, .slice A3 t.f3.length c3] 28 (0, 0)) ∧
  (hasW w t A3 c3 A1 c1 n).heap[w.heap.size + 1]? = some (.map #[] 0) ∧ (hasW w t A3 c3 A1 c1 n).heap[w.heap.size + 1 + 1]? = some (.cells #[.slice A1 n c1, .map (some (w.heap.size + 1))] 94 (0, 0)) ∧ (hasW w t A3 c3 A1 c1 n).heap.size = w.heap.size + 3 := by
 have s1 : ∀ (W : World) (o : Obj), (W.alloc o).heap.size = W.heap.size + 1 := fun W o => Array.size_push _
 refine ⟨blk_alloc (blk_alloc (blk_new w _) _) _, ?_, ?_, by rw [s1, s1, s1]⟩
 ·have h := heap_alloc_new (w.alloc (.cells #[.int .i64 t.f0, .int .i64 t.f1, .int .i64 t.f2, .slice A3 t.f3.length c3] 28)) (.map #[] 0)
  rw [s1] at h
  exact blk_alloc h _
 ·have h := heap_alloc_new ((w.alloc (.cells #[.int .i64 t.f0, .int .i64 t.f1, .int .i64 t.f2, .slice A3 t.f3.length c3] 28)).alloc (.map #[] 0)) (.cells #[.slice A1 n c1, .map (some (w.heap.size + 1))] 94)
  rw [s1, s1] at h
  exact h
theorem has_ready (t : S28) (A3 : Option Addr) (c3 : Nat) (A1 : Option Addr) (c1 : Nat) (lw : List Int) (w : World) (hr3 : Kd.C k28 w A3 t.f3.length t.f3) (hc3 : t.f3.length ≤ c3) (hr1 : Kd.C (Kd.int .i64) w A1 lw.length lw) (hc1 : lw.length ≤ c1) :
  RInv (hasW w t A3 c3 A1 c1 lw.length) (fun k => k ≠ w.heap.size + 1) (w.heap.size + 1 + 1) (w.heap.size + 1) A1 c1 lw ∧ Node (hasW w t A3 c3 A1 c1 lw.length) (fun k => k ≠ w.heap.size + 1) ⟨w.heap.size, 0, none⟩ t := by
 obtain ⟨h0, h1, h2, h3⟩ := has_heap w t A3 c3 A1 c1 lw.length
 refine ⟨⟨h2, by omega, fun h => h rfl, hc1, ?_, #[], 0, h1, fun e he => by simp at he⟩, by show w.heap.size ≠ w.heap.size + 1; omega, rfl, ⟨_, _, h0⟩, [.int .i64 t.f0, .int .i64 t.f1, .int .i64 t.f2, .slice A3 t.f3.length c3], rfl, ?_, ?_⟩
 ·exact Kd.F_mono (Kd.F_alloc (Kd.F_alloc (Kd.F_alloc (Kd.C_F (Kd.heap_int .i64) hr1) _) _) _) (fun k hk => by omega)
 ·intro i u hu
  rw [add_at, Nat.zero_add]
  rw [blk_cell h0 i]
  simpa using hu
 ·exact k28_mkF _ _ t hc3 (Kd.F_mono (Kd.F_alloc (Kd.F_alloc (Kd.F_alloc (Kd.C_F k28_heap hr3) _) _) _) (fun k hk => by omega))
theorem has_below {t : S28} {A3 : Option Addr} {c3 : Nat} {A1 : Option Addr} {c1 n : Nat} {w W' : World} (hk : Kept (hasW w t A3 c3 A1 c1 n) W' (fun j => j = w.heap.size + 1)) (hs : Same (hasW w t A3 c3 A1 c1 n) W') : Below w.heap.size w W' := by
 obtain ⟨_, _, _, h3⟩ := has_heap w t A3 c3 A1 c1 n
 refine ⟨hs.1, hs.2.1, hs.2.2, by have := hk.1; omega, fun k hlt => (hk.2 k (by omega) (by omega)).trans ?_⟩
 have hb : Below w.heap.size w (hasW w t A3 c3 A1 c1 n) := below_alloc (below_alloc (below_alloc (Below.refl _ _) _) _) _
 exact hb.block k hlt
set_option maxHeartbeats 8000000 in
set_option maxRecDepth 100000 in
theorem has_calls (k : Nat) (t : S28) (A3 : Option Addr) (c3 : Nat) (A1 : Option Addr) (c1 : Nat) (lw : List Int) (r : Bool) (w : World) (hr3 : Kd.C k28 w A3 t.f3.length t.f3) (hc3 : t.f3.length ≤ c3) (hr1 : Kd.C (Kd.int .i64) w A1 lw.length lw) (hc1 : lw.length ≤ c1) (h : hasF k t lw = some r) :
  Calls Try.prog 27 #[.agg #[.int .i64 t.f0, .int .i64 t.f1, .int .i64 t.f2, .slice A3 t.f3.length c3], .slice A1 lw.length c1] w fun e w' => e = .returned (.bool r) ∧ Below w.heap.size w w' := by
 obtain ⟨m, hm, h⟩ := bind_some h
 by_cases hl : lw.length < m.length
 ·rw [if_pos hl] at h
  obtain rfl := Option.some.inj h
  have hj1 := tr_lt hl
  have hj0 := tr_ge lw.length
  have HM := Aside0.mk hm
  have HR3 := Aside0.mk hr3
  have HR1 := Aside0.mk hr1
  clear hm h hr3 hr1
  have hmm := @run_makeMap Try.prog
  go_enter Try.func27, Try.ntmps27
  go_upto_region 2 with (fail)
  go_wp2_with (fail)
  obtain ⟨HI, HN⟩ := has_ready t A3 c3 A1 c1 lw w HR3.out hc3 HR1.out hc1
  refine (end_calls k t 0 m _ _ _ A1 c1 lw _ _ HM.out HI HN (fun j hj => by have := (has_heap w t A3 c3 A1 c1 lw.length).2.2.2; omega)).mono ?_
  rintro e W' ⟨A, c, rfl, h1, h2, h3, h4, h5⟩
  have hB := Aside0.mk (has_below h4 h5)
  clear h4 h5 h3 HI HN
  obtain ⟨ad, ea, hx⟩ := Kd.at_bool (Kd.F_now h2) (lw.length : Int) (Int.natCast_nonneg _) (Int.ofNat_lt.2 hl)
  rw [Int.toNat_natCast] at hx
  subst ea
  dsimp only
  go_wp2
  go_ret
  exact ⟨rfl, hB.out⟩
 ·rw [if_neg hl] at h
  cases h
end Go.Proofs.Ytodbnnfiadcbaaa.P
namespace Go.Proofs.Ytodbnnfiadcbaaa.P
open Go.RowKit Go.Proofs.YtodbnnfiadcbaaaW.PrintWords Go.Proofs.YtodbnnfiadcbaaaW.PrintLast Go.Proofs.YtodbnnfiadcbaaaW.PrintMore
set_option linter.unusedVariables false
set_option linter.unusedSimpArgs false

/-! ### expr_Has: function 27 -/
-- IMPORTS: Derived.Test.YtodbnnfiadcbaaaExprEnd4
end Go.Proofs.Ytodbnnfiadcbaaa.P
namespace Go.Proofs.Ytodbnnfiadcbaaa.P
open Go.RowKit Go.Proofs.YtodbnnfiadcbaaaW.PrintWords Go.Proofs.YtodbnnfiadcbaaaW.PrintLast Go.Proofs.YtodbnnfiadcbaaaW.PrintMore Go.Proofs.YtodbnnfiadcbaaaH
set_option linter.unusedVariables false
set_option linter.unusedSimpArgs false

/-! ### canopylaw5_known: function 13 -/
end Go.Proofs.Ytodbnnfiadcbaaa.P
namespace Go.Proofs.Ytodbnnfiadcbaaa.P
open Go.RowKit Go.Proofs.YtodbnnfiadcbaaaW.PrintWords Go.Proofs.YtodbnnfiadcbaaaW.PrintLast Go.Proofs.YtodbnnfiadcbaaaW.PrintMore Go.Proofs.YtodbnnfiadcbaaaH
set_option linter.unusedVariables false
set_option linter.unusedSimpArgs false

end Go.Proofs.Ytodbnnfiadcbaaa.P
