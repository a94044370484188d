/- What a statement's proof needs: walks of the program's functions, and what they tell (part 3). -/
import Derived.Test.YtodbnnfiadcbaaaC854baa1b80
namespace Go.Proofs.Ytodbnnfiadcbaaa.P
open Go.RowKit Go.Proofs.YtodbnnfiadcbaaaW.PrintWords Go.Proofs.YtodbnnfiadcbaaaW.PrintLast Go.Proofs.YtodbnnfiadcbaaaW.PrintMore
attribute [local go_sem] max2_int min2_int max_two min_two max_three min_three max_four min_four   -- for this text's walks alone
set_option linter.unusedVariables false
set_option linter.unusedSimpArgs false

/-- A state of type 75 at block g of W; what its slices lead to came in by w0. -/
def IsS75 (w0 W : World) (g : Nat) (f0 : List (S56)) (f1 : ByteArray) (f2 : Int) (f3 : Int) (f4 : Int) (f5 : ByteArray) (f6 : Int) (f7 : Int) (f8 : Int) (f9 : Int) (f10 : Int) : Prop := ∃ A0 c0, W.heap[g]? = some (.cells #[.slice A0 f0.length c0, .string f1, .int .i64 f2, .int .i64 f3, .int .i64 f4, .string f5, .int .i64 f6, .int .u8 f7, .int .i64 f8, .int .i64 f9, .int .i64 f10] 75 (0, 0)) ∧ w0.heap.size ≤ g ∧ (Kd.C k56 w0 A0 f0.length f0) ∧ f0.length ≤ c0
theorem IsS75.grown {w0 W : World} {g : Nat} {f0 : List (S56)} {f1 : ByteArray} {f2 : Int} {f3 : Int} {f4 : Int} {f5 : ByteArray} {f6 : Int} {f7 : Int} {f8 : Int} {f9 : Int} {f10 : Int} {W1 : World} {row : Option Nat} (h : IsS75 w0 W g f0 f1 f2 f3 f4 f5 f6 f7 f8 f9 f10) (hw : W.grownBy W1 row) (hne : some g ≠ row) : IsS75 w0 W1 g f0 f1 f2 f3 f4 f5 f6 f7 f8 f9 f10 := by
  obtain ⟨A0, c0, hb, hg, hr0, hd0⟩ := h
  exact ⟨A0, c0, blk_grown hb hw hne, hg, hr0, hd0⟩
theorem IsS75.own_neN {w0 W : World} {g : Nat} {f0 : List (S56)} {f1 : ByteArray} {f2 : Int} {f3 : Int} {f4 : Int} {f5 : ByteArray} {f6 : Int} {f7 : Int} {f8 : Int} {f9 : Int} {f10 : Int} {α : Type} {d : Kd α} {e : Nat} {base : Nat} {ok : Nat → Prop} {v : Value} {xs : List α} (h : IsS75 w0 W g f0 f1 f2 f3 f4 f5 f6 f7 f8 f9 f10) (ho : Kd.N d e W base ok v xs) (ht : e ≠ 75) : some g ≠ v.ownBlock := by
  obtain ⟨A0, c0, hb, hg, hr0, hd0⟩ := h
  exact Kd.N_ne ho hb ht
theorem IsS75.fresh {w0 W : World} {g : Nat} {f0 : List (S56)} {f1 : ByteArray} {f2 : Int} {f3 : Int} {f4 : Int} {f5 : ByteArray} {f6 : Int} {f7 : Int} {f8 : Int} {f9 : Int} {f10 : Int} (h : IsS75 w0 W g f0 f1 f2 f3 f4 f5 f6 f7 f8 f9 f10) : ∀ k, W.heap.size ≤ k → k ≠ g := by
  obtain ⟨A0, c0, hb, hg, hr0, hd0⟩ := h
  exact Kd.freshB hb
theorem IsS75.kept {w0 W : World} {g : Nat} {f0 : List (S56)} {f1 : ByteArray} {f2 : Int} {f3 : Int} {f4 : Int} {f5 : ByteArray} {f6 : Int} {f7 : Int} {f8 : Int} {f9 : Int} {f10 : Int} {W1 : World} {S : Nat → Prop} (h : IsS75 w0 W g f0 f1 f2 f3 f4 f5 f6 f7 f8 f9 f10) (hk : Kept W W1 S) (hne : ¬ S g) : IsS75 w0 W1 g f0 f1 f2 f3 f4 f5 f6 f7 f8 f9 f10 := by
  obtain ⟨A0, c0, hb, hg, hr0, hd0⟩ := h
  exact ⟨A0, c0, blk_kept hb hk hne, hg, hr0, hd0⟩
theorem IsS75.below {w0 W : World} {g : Nat} {f0 : List (S56)} {f1 : ByteArray} {f2 : Int} {f3 : Int} {f4 : Int} {f5 : ByteArray} {f6 : Int} {f7 : Int} {f8 : Int} {f9 : Int} {f10 : Int} {W1 : World} (h : IsS75 w0 W g f0 f1 f2 f3 f4 f5 f6 f7 f8 f9 f10) (hw : Below W.heap.size W W1) : IsS75 w0 W1 g f0 f1 f2 f3 f4 f5 f6 f7 f8 f9 f10 := h.grown (grown_of_below hw none) (by simp)
theorem IsS75.alloc {w0 W : World} {g : Nat} {f0 : List (S56)} {f1 : ByteArray} {f2 : Int} {f3 : Int} {f4 : Int} {f5 : ByteArray} {f6 : Int} {f7 : Int} {f8 : Int} {f9 : Int} {f10 : Int} (h : IsS75 w0 W g f0 f1 f2 f3 f4 f5 f6 f7 f8 f9 f10) (o : Obj) : IsS75 w0 (W.alloc o) g f0 f1 f2 f3 f4 f5 f6 f7 f8 f9 f10 := h.below (below_alloc (Below.refl _ _) o)
theorem IsS75.drewN {w0 W : World} {g : Nat} {f0 : List (S56)} {f1 : ByteArray} {f2 : Int} {f3 : Int} {f4 : Int} {f5 : ByteArray} {f6 : Int} {f7 : Int} {f8 : Int} {f9 : Int} {f10 : Int} (h : IsS75 w0 W g f0 f1 f2 f3 f4 f5 f6 f7 f8 f9 f10) (m : Nat) : IsS75 w0 (W.drewN m) g f0 f1 f2 f3 f4 f5 f6 f7 f8 f9 f10 := h
theorem IsS75.drew {w0 W : World} {g : Nat} {f0 : List (S56)} {f1 : ByteArray} {f2 : Int} {f3 : Int} {f4 : Int} {f5 : ByteArray} {f6 : Int} {f7 : Int} {f8 : Int} {f9 : Int} {f10 : Int} (h : IsS75 w0 W g f0 f1 f2 f3 f4 f5 f6 f7 f8 f9 f10) : IsS75 w0 W.drew g f0 f1 f2 f3 f4 f5 f6 f7 f8 f9 f10 := h
theorem IsS75.at_ {w0 W : World} {g : Nat} {f0 : List (S56)} {f1 : ByteArray} {f2 : Int} {f3 : Int} {f4 : Int} {f5 : ByteArray} {f6 : Int} {f7 : Int} {f8 : Int} {f9 : Int} {f10 : Int} {w' : World} {m : Nat} (hq : W.drewN m = w') (h : IsS75 w0 W g f0 f1 f2 f3 f4 f5 f6 f7 f8 f9 f10) : IsS75 w0 w' g f0 f1 f2 f3 f4 f5 f6 f7 f8 f9 f10 := by subst hq; exact IsS75.drewN h m
theorem IsS75.apart {w0 W : World} {g : Nat} {f0 : List (S56)} {f1 : ByteArray} {f2 : Int} {f3 : Int} {f4 : Int} {f5 : ByteArray} {f6 : Int} {f7 : Int} {f8 : Int} {f9 : Int} {f10 : Int} {α : Type} {d : Kd α} {e : Nat} {base : Nat} {ok : Nat → Prop} {v : Value} {xs : List α} (h : IsS75 w0 W g f0 f1 f2 f3 f4 f5 f6 f7 f8 f9 f10) (ho : d.R e W base ok v xs) (ht : ∀ q, q ∈ e :: d.E → q ≠ 75) : d.R e W base (fun k => ok k ∧ k ≠ g) v xs := by
  obtain ⟨A0, c0, hb, hg, hr0, hd0⟩ := h
  exact Kd.R_types ho hb ht
theorem IsS75.own_ne {w0 W : World} {g : Nat} {f0 : List (S56)} {f1 : ByteArray} {f2 : Int} {f3 : Int} {f4 : Int} {f5 : ByteArray} {f6 : Int} {f7 : Int} {f8 : Int} {f9 : Int} {f10 : Int} {α : Type} {d : Kd α} {e : Nat} {base : Nat} {ok : Nat → Prop} {v : Value} {xs : List α} (h : IsS75 w0 W g f0 f1 f2 f3 f4 f5 f6 f7 f8 f9 f10) (ho : d.R e W base ok v xs) (ht : e ≠ 75) : some g ≠ v.ownBlock := by
  obtain ⟨A0, c0, hb, hg, hr0, hd0⟩ := h
  exact Kd.R_ne ho hb ht
theorem IsS75.apartQ {w0 W : World} {g : Nat} {f0 : List (S56)} {f1 : ByteArray} {f2 : Int} {f3 : Int} {f4 : Int} {f5 : ByteArray} {f6 : Int} {f7 : Int} {f8 : Int} {f9 : Int} {f10 : Int} {α : Type} {d : Kd α} {e : Nat} {base : Nat} {ok : Nat → Prop} {v : Value} {xs : List α} (h : IsS75 w0 W g f0 f1 f2 f3 f4 f5 f6 f7 f8 f9 f10) (ho : d.Q e W base ok v xs) (ht : ∀ q, q ∈ e :: d.E → q ≠ 75) : d.Q e W base (fun k => ok k ∧ k ≠ g) v xs := by
  obtain ⟨A0, c0, hb, hg, hr0, hd0⟩ := h
  exact Kd.Q_types ho hb ht
theorem IsS75.own_neQ {w0 W : World} {g : Nat} {f0 : List (S56)} {f1 : ByteArray} {f2 : Int} {f3 : Int} {f4 : Int} {f5 : ByteArray} {f6 : Int} {f7 : Int} {f8 : Int} {f9 : Int} {f10 : Int} {α : Type} {d : Kd α} {e : Nat} {base : Nat} {ok : Nat → Prop} {v : Value} {xs : List α} (h : IsS75 w0 W g f0 f1 f2 f3 f4 f5 f6 f7 f8 f9 f10) (ho : d.Q e W base ok v xs) (ht : e ≠ 75) : some g ≠ v.ownBlock := by
  obtain ⟨A0, c0, hb, hg, hr0, hd0⟩ := h
  exact Kd.Q_ne ho hb ht
theorem IsS75.apartS {w0 W : World} {g : Nat} {f0 : List (S56)} {f1 : ByteArray} {f2 : Int} {f3 : Int} {f4 : Int} {f5 : ByteArray} {f6 : Int} {f7 : Int} {f8 : Int} {f9 : Int} {f10 : Int} {α : Type} {d : Kd α} {e : Nat} {base : Nat} {ok : Nat → Prop} {v : Value} {xs : List α} (h : IsS75 w0 W g f0 f1 f2 f3 f4 f5 f6 f7 f8 f9 f10) (ho : d.S e W base ok v xs) (ht : ∀ q, q ∈ e :: d.E → q ≠ 75) : d.S e W base (fun k => ok k ∧ k ≠ g) v xs := by
  obtain ⟨A0, c0, hb, hg, hr0, hd0⟩ := h
  exact Kd.S_types ho hb ht
theorem IsS75.own_neS {w0 W : World} {g : Nat} {f0 : List (S56)} {f1 : ByteArray} {f2 : Int} {f3 : Int} {f4 : Int} {f5 : ByteArray} {f6 : Int} {f7 : Int} {f8 : Int} {f9 : Int} {f10 : Int} {α : Type} {d : Kd α} {e : Nat} {base : Nat} {ok : Nat → Prop} {v : Value} {xs : List α} (h : IsS75 w0 W g f0 f1 f2 f3 f4 f5 f6 f7 f8 f9 f10) (ho : d.S e W base ok v xs) (ht : e ≠ 75) : some g ≠ v.ownBlock := by
  obtain ⟨A0, c0, hb, hg, hr0, hd0⟩ := h
  exact Kd.S_ne ho hb ht
theorem IsS75.lt {w0 W : World} {g : Nat} {f0 : List (S56)} {f1 : ByteArray} {f2 : Int} {f3 : Int} {f4 : Int} {f5 : ByteArray} {f6 : Int} {f7 : Int} {f8 : Int} {f9 : Int} {f10 : Int} (h : IsS75 w0 W g f0 f1 f2 f3 f4 f5 f6 f7 f8 f9 f10) : g < W.heap.size := by
  obtain ⟨A0, c0, hb, hg, hr0, hd0⟩ := h
  exact blk_lt hb
theorem IsS75.ge {w0 W : World} {g : Nat} {f0 : List (S56)} {f1 : ByteArray} {f2 : Int} {f3 : Int} {f4 : Int} {f5 : ByteArray} {f6 : Int} {f7 : Int} {f8 : Int} {f9 : Int} {f10 : Int} (h : IsS75 w0 W g f0 f1 f2 f3 f4 f5 f6 f7 f8 f9 f10) : w0.heap.size ≤ g := by
  obtain ⟨A0, c0, hb, hg, hr0, hd0⟩ := h
  exact hg
theorem IsS75.ne_blk {w0 W : World} {g : Nat} {f0 : List (S56)} {f1 : ByteArray} {f2 : Int} {f3 : Int} {f4 : Int} {f5 : ByteArray} {f6 : Int} {f7 : Int} {f8 : Int} {f9 : Int} {f10 : Int} {a : Nat} {cs : Array Value} {t : TypeId} {fr : Nat × Nat} (h : IsS75 w0 W g f0 f1 f2 f3 f4 f5 f6 f7 f8 f9 f10) (hb2 : W.heap[a]? = some (.cells cs t fr)) (ht : t ≠ 75) : g ≠ a := by
  obtain ⟨A0, c0, hb, hg, hr0, hd0⟩ := h
  rintro rfl
  rw [hb] at hb2
  injection hb2 with hb2
  injection hb2 with _ ht2
  exact ht ht2.symm
theorem IsS75.far {w0 W : World} {g : Nat} {f0 : List (S56)} {f1 : ByteArray} {f2 : Int} {f3 : Int} {f4 : Int} {f5 : ByteArray} {f6 : Int} {f7 : Int} {f8 : Int} {f9 : Int} {f10 : Int} {p : Addr} (h : IsS75 w0 W g f0 f1 f2 f3 f4 f5 f6 f7 f8 f9 f10) (hne : g ≠ p.block) (u : Value) : IsS75 w0 (W.setCell p u) g f0 f1 f2 f3 f4 f5 f6 f7 f8 f9 f10 := by
  obtain ⟨A0, c0, hb, hg, hr0, hd0⟩ := h
  exact ⟨A0, c0, blk_far hb hne u, hg, hr0, hd0⟩
theorem IsS75.far_ {w0 W : World} {g : Nat} {f0 : List (S56)} {f1 : ByteArray} {f2 : Int} {f3 : Int} {f4 : Int} {f5 : ByteArray} {f6 : Int} {f7 : Int} {f8 : Int} {f9 : Int} {f10 : Int} {g2 o2 : Nat} {u : Value} (h : IsS75 w0 W g f0 f1 f2 f3 f4 f5 f6 f7 f8 f9 f10) (hne : g ≠ g2) : IsS75 w0 (W.setCell ⟨g2, o2, none⟩ u) g f0 f1 f2 f3 f4 f5 f6 f7 f8 f9 f10 := IsS75.far (p := ⟨g2, o2, none⟩) h hne u
theorem cellS75_0 {W : World} {g : Nat} {A0 : Option Addr} {c0 : Nat} {f0 : List (S56)} {f1 : ByteArray} {f2 : Int} {f3 : Int} {f4 : Int} {f5 : ByteArray} {f6 : Int} {f7 : Int} {f8 : Int} {f9 : Int} {f10 : Int} (h : W.heap[g]? = some (.cells #[.slice A0 f0.length c0, .string f1, .int .i64 f2, .int .i64 f3, .int .i64 f4, .string f5, .int .i64 f6, .int .u8 f7, .int .i64 f8, .int .i64 f9, .int .i64 f10] 75 (0, 0))) : W.cell? ⟨g, 0, none⟩ = some (.slice A0 f0.length c0) := (blk_cell h 0).trans rfl
theorem cellS75_1 {W : World} {g : Nat} {A0 : Option Addr} {c0 : Nat} {f0 : List (S56)} {f1 : ByteArray} {f2 : Int} {f3 : Int} {f4 : Int} {f5 : ByteArray} {f6 : Int} {f7 : Int} {f8 : Int} {f9 : Int} {f10 : Int} (h : W.heap[g]? = some (.cells #[.slice A0 f0.length c0, .string f1, .int .i64 f2, .int .i64 f3, .int .i64 f4, .string f5, .int .i64 f6, .int .u8 f7, .int .i64 f8, .int .i64 f9, .int .i64 f10] 75 (0, 0))) : W.cell? ⟨g, 1, none⟩ = some (.string f1) := (blk_cell h 1).trans rfl
theorem IsS75.set_1 {w0 W : World} {g : Nat} {f0 : List (S56)} {f1 : ByteArray} {f2 : Int} {f3 : Int} {f4 : Int} {f5 : ByteArray} {f6 : Int} {f7 : Int} {f8 : Int} {f9 : Int} {f10 : Int} (h : IsS75 w0 W g f0 f1 f2 f3 f4 f5 f6 f7 f8 f9 f10) (x : ByteArray) : IsS75 w0 (W.setCell ⟨g, 1, none⟩ (.string x)) g f0 x f2 f3 f4 f5 f6 f7 f8 f9 f10 := by
  obtain ⟨A0, c0, hb, hg, hr0, hd0⟩ := h
  exact ⟨A0, c0, by simpa using blk_set hb 1 (.string x), hg, hr0, hd0⟩
theorem cellS75_2 {W : World} {g : Nat} {A0 : Option Addr} {c0 : Nat} {f0 : List (S56)} {f1 : ByteArray} {f2 : Int} {f3 : Int} {f4 : Int} {f5 : ByteArray} {f6 : Int} {f7 : Int} {f8 : Int} {f9 : Int} {f10 : Int} (h : W.heap[g]? = some (.cells #[.slice A0 f0.length c0, .string f1, .int .i64 f2, .int .i64 f3, .int .i64 f4, .string f5, .int .i64 f6, .int .u8 f7, .int .i64 f8, .int .i64 f9, .int .i64 f10] 75 (0, 0))) : W.cell? ⟨g, 2, none⟩ = some (.int .i64 f2) := (blk_cell h 2).trans rfl
theorem IsS75.set_2 {w0 W : World} {g : Nat} {f0 : List (S56)} {f1 : ByteArray} {f2 : Int} {f3 : Int} {f4 : Int} {f5 : ByteArray} {f6 : Int} {f7 : Int} {f8 : Int} {f9 : Int} {f10 : Int} (h : IsS75 w0 W g f0 f1 f2 f3 f4 f5 f6 f7 f8 f9 f10) (x : Int) : IsS75 w0 (W.setCell ⟨g, 2, none⟩ (.int .i64 x)) g f0 f1 x f3 f4 f5 f6 f7 f8 f9 f10 := by
  obtain ⟨A0, c0, hb, hg, hr0, hd0⟩ := h
  exact ⟨A0, c0, by simpa using blk_set hb 2 (.int .i64 x), hg, hr0, hd0⟩
theorem cellS75_3 {W : World} {g : Nat} {A0 : Option Addr} {c0 : Nat} {f0 : List (S56)} {f1 : ByteArray} {f2 : Int} {f3 : Int} {f4 : Int} {f5 : ByteArray} {f6 : Int} {f7 : Int} {f8 : Int} {f9 : Int} {f10 : Int} (h : W.heap[g]? = some (.cells #[.slice A0 f0.length c0, .string f1, .int .i64 f2, .int .i64 f3, .int .i64 f4, .string f5, .int .i64 f6, .int .u8 f7, .int .i64 f8, .int .i64 f9, .int .i64 f10] 75 (0, 0))) : W.cell? ⟨g, 3, none⟩ = some (.int .i64 f3) := (blk_cell h 3).trans rfl
theorem IsS75.set_3 {w0 W : World} {g : Nat} {f0 : List (S56)} {f1 : ByteArray} {f2 : Int} {f3 : Int} {f4 : Int} {f5 : ByteArray} {f6 : Int} {f7 : Int} {f8 : Int} {f9 : Int} {f10 : Int} (h : IsS75 w0 W g f0 f1 f2 f3 f4 f5 f6 f7 f8 f9 f10) (x : Int) : IsS75 w0 (W.setCell ⟨g, 3, none⟩ (.int .i64 x)) g f0 f1 f2 x f4 f5 f6 f7 f8 f9 f10 := by
  obtain ⟨A0, c0, hb, hg, hr0, hd0⟩ := h
  exact ⟨A0, c0, by simpa using blk_set hb 3 (.int .i64 x), hg, hr0, hd0⟩
theorem cellS75_4 {W : World} {g : Nat} {A0 : Option Addr} {c0 : Nat} {f0 : List (S56)} {f1 : ByteArray} {f2 : Int} {f3 : Int} {f4 : Int} {f5 : ByteArray} {f6 : Int} {f7 : Int} {f8 : Int} {f9 : Int} {f10 : Int} (h : W.heap[g]? = some (.cells #[.slice A0 f0.length c0, .string f1, .int .i64 f2, .int .i64 f3, .int .i64 f4, .string f5, .int .i64 f6, .int .u8 f7, .int .i64 f8, .int .i64 f9, .int .i64 f10] 75 (0, 0))) : W.cell? ⟨g, 4, none⟩ = some (.int .i64 f4) := (blk_cell h 4).trans rfl
theorem IsS75.set_4 {w0 W : World} {g : Nat} {f0 : List (S56)} {f1 : ByteArray} {f2 : Int} {f3 : Int} {f4 : Int} {f5 : ByteArray} {f6 : Int} {f7 : Int} {f8 : Int} {f9 : Int} {f10 : Int} (h : IsS75 w0 W g f0 f1 f2 f3 f4 f5 f6 f7 f8 f9 f10) (x : Int) : IsS75 w0 (W.setCell ⟨g, 4, none⟩ (.int .i64 x)) g f0 f1 f2 f3 x f5 f6 f7 f8 f9 f10 := by
  obtain ⟨A0, c0, hb, hg, hr0, hd0⟩ := h
  exact ⟨A0, c0, by simpa using blk_set hb 4 (.int .i64 x), hg, hr0, hd0⟩
theorem cellS75_5 {W : World} {g : Nat} {A0 : Option Addr} {c0 : Nat} {f0 : List (S56)} {f1 : ByteArray} {f2 : Int} {f3 : Int} {f4 : Int} {f5 : ByteArray} {f6 : Int} {f7 : Int} {f8 : Int} {f9 : Int} {f10 : Int} (h : W.heap[g]? = some (.cells #[.slice A0 f0.length c0, .string f1, .int .i64 f2, .int .i64 f3, .int .i64 f4, .string f5, .int .i64 f6, .int .u8 f7, .int .i64 f8, .int .i64 f9, .int .i64 f10] 75 (0, 0))) : W.cell? ⟨g, 5, none⟩ = some (.string f5) := (blk_cell h 5).trans rfl
theorem IsS75.set_5 {w0 W : World} {g : Nat} {f0 : List (S56)} {f1 : ByteArray} {f2 : Int} {f3 : Int} {f4 : Int} {f5 : ByteArray} {f6 : Int} {f7 : Int} {f8 : Int} {f9 : Int} {f10 : Int} (h : IsS75 w0 W g f0 f1 f2 f3 f4 f5 f6 f7 f8 f9 f10) (x : ByteArray) : IsS75 w0 (W.setCell ⟨g, 5, none⟩ (.string x)) g f0 f1 f2 f3 f4 x f6 f7 f8 f9 f10 := by
  obtain ⟨A0, c0, hb, hg, hr0, hd0⟩ := h
  exact ⟨A0, c0, by simpa using blk_set hb 5 (.string x), hg, hr0, hd0⟩
theorem cellS75_6 {W : World} {g : Nat} {A0 : Option Addr} {c0 : Nat} {f0 : List (S56)} {f1 : ByteArray} {f2 : Int} {f3 : Int} {f4 : Int} {f5 : ByteArray} {f6 : Int} {f7 : Int} {f8 : Int} {f9 : Int} {f10 : Int} (h : W.heap[g]? = some (.cells #[.slice A0 f0.length c0, .string f1, .int .i64 f2, .int .i64 f3, .int .i64 f4, .string f5, .int .i64 f6, .int .u8 f7, .int .i64 f8, .int .i64 f9, .int .i64 f10] 75 (0, 0))) : W.cell? ⟨g, 6, none⟩ = some (.int .i64 f6) := (blk_cell h 6).trans rfl
theorem IsS75.set_6 {w0 W : World} {g : Nat} {f0 : List (S56)} {f1 : ByteArray} {f2 : Int} {f3 : Int} {f4 : Int} {f5 : ByteArray} {f6 : Int} {f7 : Int} {f8 : Int} {f9 : Int} {f10 : Int} (h : IsS75 w0 W g f0 f1 f2 f3 f4 f5 f6 f7 f8 f9 f10) (x : Int) : IsS75 w0 (W.setCell ⟨g, 6, none⟩ (.int .i64 x)) g f0 f1 f2 f3 f4 f5 x f7 f8 f9 f10 := by
  obtain ⟨A0, c0, hb, hg, hr0, hd0⟩ := h
  exact ⟨A0, c0, by simpa using blk_set hb 6 (.int .i64 x), hg, hr0, hd0⟩
theorem cellS75_7 {W : World} {g : Nat} {A0 : Option Addr} {c0 : Nat} {f0 : List (S56)} {f1 : ByteArray} {f2 : Int} {f3 : Int} {f4 : Int} {f5 : ByteArray} {f6 : Int} {f7 : Int} {f8 : Int} {f9 : Int} {f10 : Int} (h : W.heap[g]? = some (.cells #[.slice A0 f0.length c0, .string f1, .int .i64 f2, .int .i64 f3, .int .i64 f4, .string f5, .int .i64 f6, .int .u8 f7, .int .i64 f8, .int .i64 f9, .int .i64 f10] 75 (0, 0))) : W.cell? ⟨g, 7, none⟩ = some (.int .u8 f7) := (blk_cell h 7).trans rfl
theorem IsS75.set_7 {w0 W : World} {g : Nat} {f0 : List (S56)} {f1 : ByteArray} {f2 : Int} {f3 : Int} {f4 : Int} {f5 : ByteArray} {f6 : Int} {f7 : Int} {f8 : Int} {f9 : Int} {f10 : Int} (h : IsS75 w0 W g f0 f1 f2 f3 f4 f5 f6 f7 f8 f9 f10) (x : Int) : IsS75 w0 (W.setCell ⟨g, 7, none⟩ (.int .u8 x)) g f0 f1 f2 f3 f4 f5 f6 x f8 f9 f10 := by
  obtain ⟨A0, c0, hb, hg, hr0, hd0⟩ := h
  exact ⟨A0, c0, by simpa using blk_set hb 7 (.int .u8 x), hg, hr0, hd0⟩
theorem cellS75_8 {W : World} {g : Nat} {A0 : Option Addr} {c0 : Nat} {f0 : List (S56)} {f1 : ByteArray} {f2 : Int} {f3 : Int} {f4 : Int} {f5 : ByteArray} {f6 : Int} {f7 : Int} {f8 : Int} {f9 : Int} {f10 : Int} (h : W.heap[g]? = some (.cells #[.slice A0 f0.length c0, .string f1, .int .i64 f2, .int .i64 f3, .int .i64 f4, .string f5, .int .i64 f6, .int .u8 f7, .int .i64 f8, .int .i64 f9, .int .i64 f10] 75 (0, 0))) : W.cell? ⟨g, 8, none⟩ = some (.int .i64 f8) := (blk_cell h 8).trans rfl
theorem IsS75.set_8 {w0 W : World} {g : Nat} {f0 : List (S56)} {f1 : ByteArray} {f2 : Int} {f3 : Int} {f4 : Int} {f5 : ByteArray} {f6 : Int} {f7 : Int} {f8 : Int} {f9 : Int} {f10 : Int} (h : IsS75 w0 W g f0 f1 f2 f3 f4 f5 f6 f7 f8 f9 f10) (x : Int) : IsS75 w0 (W.setCell ⟨g, 8, none⟩ (.int .i64 x)) g f0 f1 f2 f3 f4 f5 f6 f7 x f9 f10 := by
  obtain ⟨A0, c0, hb, hg, hr0, hd0⟩ := h
  exact ⟨A0, c0, by simpa using blk_set hb 8 (.int .i64 x), hg, hr0, hd0⟩
theorem cellS75_9 {W : World} {g : Nat} {A0 : Option Addr} {c0 : Nat} {f0 : List (S56)} {f1 : ByteArray} {f2 : Int} {f3 : Int} {f4 : Int} {f5 : ByteArray} {f6 : Int} {f7 : Int} {f8 : Int} {f9 : Int} {f10 : Int} (h : W.heap[g]? = some (.cells #[.slice A0 f0.length c0, .string f1, .int .i64 f2, .int .i64 f3, .int .i64 f4, .string f5, .int .i64 f6, .int .u8 f7, .int .i64 f8, .int .i64 f9, .int .i64 f10] 75 (0, 0))) : W.cell? ⟨g, 9, none⟩ = some (.int .i64 f9) := (blk_cell h 9).trans rfl
theorem IsS75.set_9 {w0 W : World} {g : Nat} {f0 : List (S56)} {f1 : ByteArray} {f2 : Int} {f3 : Int} {f4 : Int} {f5 : ByteArray} {f6 : Int} {f7 : Int} {f8 : Int} {f9 : Int} {f10 : Int} (h : IsS75 w0 W g f0 f1 f2 f3 f4 f5 f6 f7 f8 f9 f10) (x : Int) : IsS75 w0 (W.setCell ⟨g, 9, none⟩ (.int .i64 x)) g f0 f1 f2 f3 f4 f5 f6 f7 f8 x f10 := by
  obtain ⟨A0, c0, hb, hg, hr0, hd0⟩ := h
  exact ⟨A0, c0, by simpa using blk_set hb 9 (.int .i64 x), hg, hr0, hd0⟩
theorem cellS75_10 {W : World} {g : Nat} {A0 : Option Addr} {c0 : Nat} {f0 : List (S56)} {f1 : ByteArray} {f2 : Int} {f3 : Int} {f4 : Int} {f5 : ByteArray} {f6 : Int} {f7 : Int} {f8 : Int} {f9 : Int} {f10 : Int} (h : W.heap[g]? = some (.cells #[.slice A0 f0.length c0, .string f1, .int .i64 f2, .int .i64 f3, .int .i64 f4, .string f5, .int .i64 f6, .int .u8 f7, .int .i64 f8, .int .i64 f9, .int .i64 f10] 75 (0, 0))) : W.cell? ⟨g, 10, none⟩ = some (.int .i64 f10) := (blk_cell h 10).trans rfl
theorem IsS75.set_10 {w0 W : World} {g : Nat} {f0 : List (S56)} {f1 : ByteArray} {f2 : Int} {f3 : Int} {f4 : Int} {f5 : ByteArray} {f6 : Int} {f7 : Int} {f8 : Int} {f9 : Int} {f10 : Int} (h : IsS75 w0 W g f0 f1 f2 f3 f4 f5 f6 f7 f8 f9 f10) (x : Int) : IsS75 w0 (W.setCell ⟨g, 10, none⟩ (.int .i64 x)) g f0 f1 f2 f3 f4 f5 f6 f7 f8 f9 x := by
  obtain ⟨A0, c0, hb, hg, hr0, hd0⟩ := h
  exact ⟨A0, c0, by simpa using blk_set hb 10 (.int .i64 x), hg, hr0, hd0⟩
theorem IsS75.new (w0 W : World) (A0 : Option Addr) (c0 : Nat) (f0 : List (S56)) (f1 : ByteArray) (f2 : Int) (f3 : Int) (f4 : Int) (f5 : ByteArray) (f6 : Int) (f7 : Int) (f8 : Int) (f9 : Int) (f10 : Int) (hB : Below w0.heap.size w0 W) (hr0 : Kd.C k56 w0 A0 f0.length f0) (hd0 : f0.length ≤ c0) : IsS75 w0 (W.alloc (.cells #[.slice A0 f0.length c0, .string f1, .int .i64 f2, .int .i64 f3, .int .i64 f4, .string f5, .int .i64 f6, .int .u8 f7, .int .i64 f8, .int .i64 f9, .int .i64 f10] 75)) W.heap.size f0 f1 f2 f3 f4 f5 f6 f7 f8 f9 f10 := ⟨A0, c0, by simpa using heap_alloc_new W _, hB.size, hr0, hd0⟩

/-! ### expr_parser_next: function 40 -/
mutual
def expr_parser_next.j1 : Nat → List (S56) → ByteArray → Int → Int → Int → ByteArray → Int → Int → Int → Int → Int → Option (ByteArray × Int × Int × Int × ByteArray × Int × Int × Int × Int × Int)
  | 0, _, _, _, _, _, _, _, _, _, _, _ => none
  | k + 1, x1000, x1001, x1002, x1003, x1004, x1005, x1006, x1007, x1008, x1009, x1010 => if 0 ≤ x1002 then (if x1002 ≤ (x1001.size : Int) then ((some (x1001.extract (x1002 : Int).toNat x1001.size : ByteArray)).bind fun y163 => (if y163.toList = ([] : List UInt8) then (some (x1001, x1002, x1002, 1, (⟨#[]⟩ : ByteArray), 0, 0, x1008, x1009, x1010)) else (if 0 < (y163.size : Int) then ((strings_IndexByte.f (⟨#[48, 49, 40, 41, 124, 42]⟩ : ByteArray) (bt y163 0)).bind fun t164 => (if t164 ≥ 0 then (some (x1001, x1002, wrap64 (x1002 + 1), 3, (⟨#[]⟩ : ByteArray), 0, bt y163 0, x1008, x1009, x1010)) else ((strings_HasPrefix.f y163 (⟨#[60, 47]⟩ : ByteArray)).bind fun t165 => (if t165 = true then (if 2 ≤ (y163.size : Int) then ((expr_named.f k (y163.extract 2 y163.size) (⟨#[62]⟩ : ByteArray)).bind fun bt167 => (if bt167.2.2 > 0 then (some (x1001, x1002, wrap64 ((wrap64 (x1002 + 2)) + bt167.2.2), 4, bt167.1, 2, 0, x1008, x1009, x1010)) else (some (x1001, x1002, x1002, 2, (⟨#[]⟩ : ByteArray), 0, 0, x1008, x1009, x1010)))) else (none)) else (if (bt y163 0) = 60 then (if 1 ≤ (y163.size : Int) then ((expr_named.f k (y163.extract 1 y163.size) (⟨#[62, 91]⟩ : ByteArray)).bind fun bt171 => (if bt171.2.2 > 0 then (if bt171.2.1 = 91 then (some (x1001, x1002, wrap64 ((wrap64 (x1002 + 1)) + bt171.2.2), 5, bt171.1, 1, 0, x1008, x1009, x1010)) else (some (x1001, x1002, wrap64 ((wrap64 (x1002 + 1)) + bt171.2.2), 4, bt171.1, 1, 0, x1008, x1009, x1010))) else (some (x1001, x1002, x1002, 2, (⟨#[]⟩ : ByteArray), 0, 0, x1008, x1009, x1010)))) else (none)) else (if (bt y163 0) = 93 then (if 1 ≤ (y163.size : Int) then ((expr_named.f k (y163.extract 1 y163.size) (⟨#[62]⟩ : ByteArray)).bind fun bt175 => (if bt175.2.2 > 0 then (some (x1001, x1002, wrap64 ((wrap64 (x1002 + 1)) + bt175.2.2), 6, bt175.1, 2, 0, x1008, x1009, x1010)) else (some (x1001, x1002, x1002, 2, (⟨#[]⟩ : ByteArray), 0, 0, x1008, x1009, x1010)))) else (none)) else ((expr_named.f k y163 (⟨#[]⟩ : ByteArray)).bind fun bt178 => (if bt178.2.2 > 0 then (some (x1001, x1002, wrap64 (x1002 + bt178.2.2), 4, bt178.1, 3, 0, x1008, x1009, x1010)) else (some (x1001, x1002, x1002, 2, (⟨#[]⟩ : ByteArray), 0, 0, x1008, x1009, x1010)))))))))) else (none)))) else (none)) else (none)
def expr_parser_next.l0 : Nat → List (S56) → ByteArray → Int → Int → Int → ByteArray → Int → Int → Int → Int → Int → Option (ByteArray × Int × Int × Int × ByteArray × Int × Int × Int × Int × Int)
  | 0, _, _, _, _, _, _, _, _, _, _, _ => none
  | k + 1, x1000, x1001, x1002, x1003, x1004, x1005, x1006, x1007, x1008, x1009, x1010 => if x1002 < (x1001.size : Int) then (if 0 ≤ x1002 then (if (bt x1001 x1002) = 32 then (expr_parser_next.l0 k x1000 x1001 (wrap64 (x1002 + 1)) x1003 x1004 x1005 x1006 x1007 x1008 x1009 x1010) else (expr_parser_next.j1 k x1000 x1001 x1002 x1003 x1004 x1005 x1006 x1007 x1008 x1009 x1010)) else (none)) else (expr_parser_next.j1 k x1000 x1001 x1002 x1003 x1004 x1005 x1006 x1007 x1008 x1009 x1010)
end
def expr_parser_next.f (k : Nat) (s0_0 : List (S56)) (s0_1 : ByteArray) (s0_2 : Int) (s0_3 : Int) (s0_4 : Int) (s0_5 : ByteArray) (s0_6 : Int) (s0_7 : Int) (s0_8 : Int) (s0_9 : Int) (s0_10 : Int) : Option (ByteArray × Int × Int × Int × ByteArray × Int × Int × Int × Int × Int) := expr_parser_next.l0 k s0_0 s0_1 s0_3 s0_3 s0_4 s0_5 s0_6 s0_7 s0_8 s0_9 s0_10
theorem expr_parser_next.mono_l : ∀ k, (∀ y0 y1 y2 y3 y4 y5 y6 y7 y8 y9 y10, LeO (expr_parser_next.j1 k y0 y1 y2 y3 y4 y5 y6 y7 y8 y9 y10) (expr_parser_next.j1 (k + 1) y0 y1 y2 y3 y4 y5 y6 y7 y8 y9 y10)) ∧ (∀ y0 y1 y2 y3 y4 y5 y6 y7 y8 y9 y10, LeO (expr_parser_next.l0 k y0 y1 y2 y3 y4 y5 y6 y7 y8 y9 y10) (expr_parser_next.l0 (k + 1) y0 y1 y2 y3 y4 y5 y6 y7 y8 y9 y10))
  | 0 => ⟨fun _ _ _ _ _ _ _ _ _ _ _ r h => by simp [expr_parser_next.j1] at h, fun _ _ _ _ _ _ _ _ _ _ _ r h => by simp [expr_parser_next.l0] at h⟩
  | k + 1 => by
    obtain ⟨ih0, ih1⟩ := expr_parser_next.mono_l k
    refine ⟨?_, ?_⟩
    · intro y0 y1 y2 y3 y4 y5 y6 y7 y8 y9 y10
      unfold expr_parser_next.j1
      repeat' first
      | (with_reducible exact expr_named.mono _ _ _)
      | (with_reducible exact LeO.refl _)
      | (with_reducible refine LeO.ite ?_ ?_)
      | (with_reducible refine LeO.bind ?_ (fun _ => ?_))
    · intro y0 y1 y2 y3 y4 y5 y6 y7 y8 y9 y10
      unfold expr_parser_next.l0
      repeat' first
      | (with_reducible exact ih0 _ _ _ _ _ _ _ _ _ _ _)
      | (with_reducible exact ih1 _ _ _ _ _ _ _ _ _ _ _)
      | (with_reducible exact LeO.refl _)
      | (with_reducible refine LeO.ite ?_ ?_)
theorem expr_parser_next.mono : ∀ a0 a1 a2 a3 a4 a5 a6 a7 a8 a9 a10 k, LeO (expr_parser_next.f k a0 a1 a2 a3 a4 a5 a6 a7 a8 a9 a10) (expr_parser_next.f (k + 1) a0 a1 a2 a3 a4 a5 a6 a7 a8 a9 a10) := by
  intro a0 a1 a2 a3 a4 a5 a6 a7 a8 a9 a10 k
  obtain ⟨ih0, ih1⟩ := expr_parser_next.mono_l k
  unfold expr_parser_next.f
  repeat' first
      | (with_reducible exact ih1 _ _ _ _ _ _ _ _ _ _ _)
set_option maxHeartbeats 8000000 in
set_option maxRecDepth 100000 in
theorem expr_parser_next.calls (k : Nat) (g : Nat) (s0_0 : List (S56)) (s0_1 : ByteArray) (s0_2 : Int) (s0_3 : Int) (s0_4 : Int) (s0_5 : ByteArray) (s0_6 : Int) (s0_7 : Int) (s0_8 : Int) (s0_9 : Int) (s0_10 : Int) (r1 : ByteArray) (r2 : Int) (r3 : Int) (r4 : Int) (r5 : ByteArray) (r6 : Int) (r7 : Int) (r8 : Int) (r9 : Int) (r10 : Int) (w0 w : World) (hI : IsS75 w0 w g s0_0 s0_1 s0_2 s0_3 s0_4 s0_5 s0_6 s0_7 s0_8 s0_9 s0_10) (hB : Below w0.heap.size w0 w) (h : expr_parser_next.f k s0_0 s0_1 s0_2 s0_3 s0_4 s0_5 s0_6 s0_7 s0_8 s0_9 s0_10 = some (r1, r2, r3, r4, r5, r6, r7, r8, r9, r10)) :
    Calls Try.prog 40 #[.pointer (some ⟨g, 0, none⟩)] w fun e w' => e = .returned (.tuple #[]) ∧ IsS75 w0 w' g s0_0 r1 r2 r3 r4 r5 r6 r7 r8 r9 r10 ∧ Below w0.heap.size w0 w' ∧ KeepBut w w' g none := by
  have hu73 := Try.underlying73
  have hu56 := Try.underlying56
  have HI0 := Aside0.mk hI
  have HK := Aside0.mk (KeepBut.refl w g none)
  have HL := Aside0.mk hB.size
  clear hI
  have HW0 := Aside0.mk hB.size
  have HB := Aside0.mk hB
  clear hB
  have H : (expr_parser_next.l0 k s0_0 s0_1 s0_3 s0_3 s0_4 s0_5 s0_6 s0_7 s0_8 s0_9 s0_10) = some (r1, r2, r3, r4, r5, r6, r7, r8, r9, r10) := h
  clear h
  have HC2 := Aside0.mk H
  clear H
  obtain ⟨ASz3_0, cSz3_0, HGz3, hgz3, HSz3_0, HDz3_0⟩ := HI0.out
  obtain ⟨hcz3_0, hcz3_1, hcz3_2, hcz3_3, hcz3_4, hcz3_5, hcz3_6, hcz3_7, hcz3_8, hcz3_9, hcz3_10, -, hfz3_1, hfz3_2, hfz3_3, hfz3_4, hfz3_5, hfz3_6, hfz3_7, hfz3_8, hfz3_9, hfz3_10⟩ := Go.Proofs.YtodbnnfiadcbaaaH.cells11 HGz3
  clear HGz3 hgz3
  go_enter Try.func40, Try.ntmps40
  go_upto_block 0 with (fail)
  repeat (go_quiet (fail); go_upto_block 0 with (fail))
  go_cut [] (fun wc => ∃ (kq : Nat) (x1002_1 : Int), Aside0 (expr_parser_next.j1 kq s0_0 s0_1 x1002_1 s0_3 s0_4 s0_5 s0_6 s0_7 s0_8 s0_9 s0_10 = some (r1, r2, r3, r4, r5, r6, r7, r8, r9, r10)) ∧ Aside0 (kq ≤ k) ∧ Aside0 (IsS75 w0 wc g s0_0 s0_1 x1002_1 s0_3 s0_4 s0_5 s0_6 s0_7 s0_8 s0_9 s0_10) ∧ Aside0 (KeepBut w wc g none) ∧ Aside0 (Below w0.heap.size w0 wc))
  case first =>
    have H := HC2.out
    clear HC2
    have H' := Aside0.mk H
    clear H
    go_wp2_with (fail)
    repeat ((fail); try go_wp2_with (fail))
    go_loopg [] k (fun kq w' => ∃ (x1002_1 : Int), Aside0 (expr_parser_next.l0 kq s0_0 s0_1 x1002_1 s0_3 s0_4 s0_5 s0_6 s0_7 s0_8 s0_9 s0_10 = some (r1, r2, r3, r4, r5, r6, r7, r8, r9, r10)) ∧ Aside0 (kq ≤ k) ∧ Aside0 (IsS75 w0 w' g s0_0 s0_1 x1002_1 s0_3 s0_4 s0_5 s0_6 s0_7 s0_8 s0_9 s0_10) ∧ Aside0 (KeepBut w w' g none) ∧ Aside0 (Below w0.heap.size w0 w'))
    case atStart => exact ⟨(s0_3), H', ⟨Nat.le_refl _⟩, ⟨by repeat ((with_reducible first | exact HI0.out | apply IsS75.set_2))⟩, ⟨by repeat ((with_reducible first | exact HK.out | apply KeepBut.set_))⟩, ⟨by repeat ((with_reducible first | exact HB.out | refine below_set ?_ (IsS75.ge HI0.out)))⟩⟩
    case round =>
      clear H'
      clear hcz3_0 hcz3_1 hcz3_10 hcz3_2 hcz3_3 hcz3_4 hcz3_5 hcz3_6 hcz3_7 hcz3_8 hcz3_9 hfz3_1 hfz3_10 hfz3_2 hfz3_3 hfz3_4 hfz3_5 hfz3_6 hfz3_7 hfz3_8 hfz3_9
      obtain ⟨x1002_1, HA, HK1, HI0, HK, HB⟩ := hrel
      cases gk with
      | zero => exact absurd HA.out (by simp [expr_parser_next.l0])
      | succ k1 =>
        have H := HA.out
        clear HA
        simp only [expr_parser_next.l0] at H
        by_cases c4 : x1002_1 < (s0_1.size : Int)
        · rw [if_pos c4] at H
          have c4b0 : decide (x1002_1 < (s0_1.size : Int)) = true := decide_eq_true c4
          clear c4
          (skip)
          by_cases c5 : 0 ≤ x1002_1
          · rw [if_pos c5] at H
            have c5b0 : decide (0 ≤ x1002_1) = true := decide_eq_true c5
            clear c5
            by_cases c7 : (bt s0_1 x1002_1) = 32
            · rw [if_pos c7] at H
              have c7b0 : ((bt s0_1 x1002_1) == 32) = true := beq_iff_eq.mpr c7
              have c7b1 : ((bt s0_1 x1002_1) != 32) = false := bne_eq_false_iff_eq.mpr c7
              clear c7
              have H' := Aside0.mk H
              clear H
              obtain ⟨ASz8_0, cSz8_0, HGz8, hgz8, HSz8_0, HDz8_0⟩ := HI0.out
              obtain ⟨hcz8_0, hcz8_1, hcz8_2, hcz8_3, hcz8_4, hcz8_5, hcz8_6, hcz8_7, hcz8_8, hcz8_9, hcz8_10, -, hfz8_1, hfz8_2, hfz8_3, hfz8_4, hfz8_5, hfz8_6, hfz8_7, hfz8_8, hfz8_9, hfz8_10⟩ := Go.Proofs.YtodbnnfiadcbaaaH.cells11 HGz8
              clear HGz8 hgz8
              have p6 : 0 ≤ (x1002_1 : Int) := of_decide_eq_true (by (with_reducible assumption))
              have q6 : x1002_1 < (s0_1.size : Int) := of_decide_eq_true (by (with_reducible assumption))
              have hx6 := bt_at s0_1 x1002_1
              replace p6 := eq_true p6
              replace q6 := eq_true q6
              go_wp2_with (fail)
              repeat ((go_region); try go_wp2_with (fail))
              go_roundg k1
              case measure => have := HK1.out; omega
              case rel => exact ⟨(wrap64 (x1002_1 + 1)), H', ⟨by have := HK1.out; omega⟩, ⟨by repeat ((with_reducible first | exact HI0.out | apply IsS75.drew | apply IsS75.set_2))⟩, ⟨by repeat ((with_reducible first | exact HK.out | apply KeepBut.set_ | apply keep_drew))⟩, ⟨by repeat ((with_reducible first | exact HB.out | apply below_drew1 | refine below_set ?_ (IsS75.ge HI0.out)))⟩⟩
            · rw [if_neg c7] at H
              have c7b0 : ((bt s0_1 x1002_1) == 32) = false := beq_eq_false_iff_ne.mpr c7
              have c7b1 : ((bt s0_1 x1002_1) != 32) = true := bne_iff_ne.mpr c7
              have H' := Aside0.mk H
              clear H
              obtain ⟨ASz9_0, cSz9_0, HGz9, hgz9, HSz9_0, HDz9_0⟩ := HI0.out
              obtain ⟨hcz9_0, hcz9_1, hcz9_2, hcz9_3, hcz9_4, hcz9_5, hcz9_6, hcz9_7, hcz9_8, hcz9_9, hcz9_10, -, hfz9_1, hfz9_2, hfz9_3, hfz9_4, hfz9_5, hfz9_6, hfz9_7, hfz9_8, hfz9_9, hfz9_10⟩ := Go.Proofs.YtodbnnfiadcbaaaH.cells11 HGz9
              clear HGz9 hgz9
              have p6 : 0 ≤ (x1002_1 : Int) := of_decide_eq_true (by (with_reducible assumption))
              have q6 : x1002_1 < (s0_1.size : Int) := of_decide_eq_true (by (with_reducible assumption))
              have hx6 := bt_at s0_1 x1002_1
              replace p6 := eq_true p6
              replace q6 := eq_true q6
              go_wp2_with (fail)
              repeat ((go_region); try go_wp2_with (fail))
              go_meet
              case rel => exact ⟨_, (x1002_1), H', ⟨by have := HK1.out; omega⟩, ⟨by repeat ((with_reducible first | exact HI0.out | apply IsS75.drew))⟩, ⟨by repeat ((with_reducible first | exact HK.out | apply keep_drew))⟩, ⟨by repeat ((with_reducible first | exact HB.out | apply below_drew1))⟩⟩
          · rw [if_neg c5] at H
            exact absurd H (by simp)
        · rw [if_neg c4] at H
          have c4b0 : decide (x1002_1 < (s0_1.size : Int)) = false := decide_eq_false c4
          clear c4
          (skip)
          have H' := Aside0.mk H
          clear H
          obtain ⟨ASz10_0, cSz10_0, HGz10, hgz10, HSz10_0, HDz10_0⟩ := HI0.out
          obtain ⟨hcz10_0, hcz10_1, hcz10_2, hcz10_3, hcz10_4, hcz10_5, hcz10_6, hcz10_7, hcz10_8, hcz10_9, hcz10_10, -, hfz10_1, hfz10_2, hfz10_3, hfz10_4, hfz10_5, hfz10_6, hfz10_7, hfz10_8, hfz10_9, hfz10_10⟩ := Go.Proofs.YtodbnnfiadcbaaaH.cells11 HGz10
          clear HGz10 hgz10
          go_wp2_with (fail)
          repeat ((go_region); try go_wp2_with (fail))
          go_meet
          case rel => exact ⟨_, (x1002_1), H', ⟨by have := HK1.out; omega⟩, ⟨by repeat ((with_reducible first | exact HI0.out | apply IsS75.drew))⟩, ⟨by repeat ((with_reducible first | exact HK.out | apply keep_drew))⟩, ⟨by repeat ((with_reducible first | exact HB.out | apply below_drew1))⟩⟩
  case rest =>
    clear HC2 hcz3_0 hcz3_1 hcz3_10 hcz3_2 hcz3_3 hcz3_4 hcz3_5 hcz3_6 hcz3_7 hcz3_8 hcz3_9 hfz3_1 hfz3_10 hfz3_2 hfz3_3 hfz3_4 hfz3_5 hfz3_6 hfz3_7 hfz3_8 hfz3_9
    obtain ⟨kq, x1002_1, HA, HJ1, HI0, HK, HB⟩ := hcut
    cases kq with
    | zero => exact absurd HA.out (by simp [expr_parser_next.j1])
    | succ kj1 =>
      have H := HA.out
      clear HA
      simp only [expr_parser_next.j1] at H
      by_cases c11 : 0 ≤ x1002_1
      · rw [if_pos c11] at H
        have c11b0 := eq_true c11
        have c11b1 : decide (0 ≤ x1002_1) = true := decide_eq_true c11
        clear c11
        by_cases c12 : x1002_1 ≤ (s0_1.size : Int)
        · rw [if_pos c12] at H
          have c12b0 := eq_true c12
          have c12b1 : decide (x1002_1 ≤ (s0_1.size : Int)) = true := decide_eq_true c12
          clear c12
          obtain ⟨y163, hy163⟩ : ∃ y_ : ByteArray, y_ = (s0_1.extract (x1002_1 : Int).toNat s0_1.size) := ⟨_, rfl⟩
          replace H : (if y163.toList = ([] : List UInt8) then (some (s0_1, x1002_1, x1002_1, 1, (⟨#[]⟩ : ByteArray), 0, 0, s0_8, s0_9, s0_10)) else (if 0 < (y163.size : Int) then ((strings_IndexByte.f (⟨#[48, 49, 40, 41, 124, 42]⟩ : ByteArray) (bt y163 0)).bind fun t164 => (if t164 ≥ 0 then (some (s0_1, x1002_1, wrap64 (x1002_1 + 1), 3, (⟨#[]⟩ : ByteArray), 0, bt y163 0, s0_8, s0_9, s0_10)) else ((strings_HasPrefix.f y163 (⟨#[60, 47]⟩ : ByteArray)).bind fun t165 => (if t165 = true then (if 2 ≤ (y163.size : Int) then ((expr_named.f kj1 (y163.extract 2 y163.size) (⟨#[62]⟩ : ByteArray)).bind fun bt167 => (if bt167.2.2 > 0 then (some (s0_1, x1002_1, wrap64 ((wrap64 (x1002_1 + 2)) + bt167.2.2), 4, bt167.1, 2, 0, s0_8, s0_9, s0_10)) else (some (s0_1, x1002_1, x1002_1, 2, (⟨#[]⟩ : ByteArray), 0, 0, s0_8, s0_9, s0_10)))) else (none)) else (if (bt y163 0) = 60 then (if 1 ≤ (y163.size : Int) then ((expr_named.f kj1 (y163.extract 1 y163.size) (⟨#[62, 91]⟩ : ByteArray)).bind fun bt171 => (if bt171.2.2 > 0 then (if bt171.2.1 = 91 then (some (s0_1, x1002_1, wrap64 ((wrap64 (x1002_1 + 1)) + bt171.2.2), 5, bt171.1, 1, 0, s0_8, s0_9, s0_10)) else (some (s0_1, x1002_1, wrap64 ((wrap64 (x1002_1 + 1)) + bt171.2.2), 4, bt171.1, 1, 0, s0_8, s0_9, s0_10))) else (some (s0_1, x1002_1, x1002_1, 2, (⟨#[]⟩ : ByteArray), 0, 0, s0_8, s0_9, s0_10)))) else (none)) else (if (bt y163 0) = 93 then (if 1 ≤ (y163.size : Int) then ((expr_named.f kj1 (y163.extract 1 y163.size) (⟨#[62]⟩ : ByteArray)).bind fun bt175 => (if bt175.2.2 > 0 then (some (s0_1, x1002_1, wrap64 ((wrap64 (x1002_1 + 1)) + bt175.2.2), 6, bt175.1, 2, 0, s0_8, s0_9, s0_10)) else (some (s0_1, x1002_1, x1002_1, 2, (⟨#[]⟩ : ByteArray), 0, 0, s0_8, s0_9, s0_10)))) else (none)) else ((expr_named.f kj1 y163 (⟨#[]⟩ : ByteArray)).bind fun bt178 => (if bt178.2.2 > 0 then (some (s0_1, x1002_1, wrap64 (x1002_1 + bt178.2.2), 4, bt178.1, 3, 0, s0_8, s0_9, s0_10)) else (some (s0_1, x1002_1, x1002_1, 2, (⟨#[]⟩ : ByteArray), 0, 0, s0_8, s0_9, s0_10)))))))))) else (none))) = some (r1, r2, r3, r4, r5, r6, r7, r8, r9, r10) := by (have H2_ := (Option.bind_some _ _).symm.trans H; rw [hy163]; with_reducible exact H2_)
          have Ny163 := Aside0.mk hy163
          clear hy163
          have hsy163 : (s0_1.extract (x1002_1 : Int).toNat s0_1.size) = y163 := Ny163.out.symm
          by_cases c13 : y163.toList = ([] : List UInt8)
          · rw [if_pos c13] at H
            have c13b0 : (y163.toList == ([] : List UInt8)) = true := beq_iff_eq.mpr c13
            have c13b1 : (y163.toList != ([] : List UInt8)) = false := bne_eq_false_iff_eq.mpr c13
            clear c13
            simp only [Option.some.injEq, Prod.mk.injEq] at H
            obtain ⟨rfl, rfl, rfl, rfl, rfl, rfl, rfl, rfl, rfl, rfl⟩ := H
            obtain ⟨ASz14_0, cSz14_0, HGz14, hgz14, HSz14_0, HDz14_0⟩ := HI0.out
            obtain ⟨hcz14_0, hcz14_1, hcz14_2, hcz14_3, hcz14_4, hcz14_5, hcz14_6, hcz14_7, hcz14_8, hcz14_9, hcz14_10, -, hfz14_1, hfz14_2, hfz14_3, hfz14_4, hfz14_5, hfz14_6, hfz14_7, hfz14_8, hfz14_9, hfz14_10⟩ := Go.Proofs.YtodbnnfiadcbaaaH.cells11 HGz14
            clear HGz14 hgz14
            go_wp2_with (fail)
            repeat ((go_region); try go_wp2_with (fail))
            go_end0
            exact ⟨by rfl, by repeat ((with_reducible first | exact HI0.out | apply IsS75.drew | apply IsS75.set_3 | apply IsS75.set_4 | apply IsS75.set_5 | apply IsS75.set_6 | apply IsS75.set_7)), by repeat ((with_reducible first | exact HB.out | apply below_drew1 | refine below_set ?_ (IsS75.ge HI0.out))), by repeat ((with_reducible first | exact HK.out | apply KeepBut.set_ | apply keep_drew))⟩
          · rw [if_neg c13] at H
            have c13b0 : (y163.toList == ([] : List UInt8)) = false := beq_eq_false_iff_ne.mpr c13
            have c13b1 : (y163.toList != ([] : List UInt8)) = true := bne_iff_ne.mpr c13
            by_cases c15 : 0 < (y163.size : Int)
            · rw [if_pos c15] at H
              have c15b0 : decide (0 < (y163.size : Int)) = true := decide_eq_true c15
              have c15b1 : decide (0 < y163.size) = true := decide_eq_true (by omega)
              clear c15
              replace H := Option.bind_eq_some_iff.mp H
              obtain ⟨t164, A170, H⟩ := H
              try dsimp only at H
              have A17 := Aside0.mk A170
              clear A170
              by_cases c18 : t164 ≥ 0
              · rw [if_pos c18] at H
                have c18b0 : decide (0 ≤ t164) = true := decide_eq_true c18
                clear c18
                simp only [Option.some.injEq, Prod.mk.injEq] at H
                obtain ⟨rfl, rfl, rfl, rfl, rfl, rfl, rfl, rfl, rfl, rfl⟩ := H
                obtain ⟨ASz20_0, cSz20_0, HGz20, hgz20, HSz20_0, HDz20_0⟩ := HI0.out
                obtain ⟨hcz20_0, hcz20_1, hcz20_2, hcz20_3, hcz20_4, hcz20_5, hcz20_6, hcz20_7, hcz20_8, hcz20_9, hcz20_10, -, hfz20_1, hfz20_2, hfz20_3, hfz20_4, hfz20_5, hfz20_6, hfz20_7, hfz20_8, hfz20_9, hfz20_10⟩ := Go.Proofs.YtodbnnfiadcbaaaH.cells11 HGz20
                clear HGz20 hgz20
                have p16 : 0 ≤ (0 : Int) := (by omega)
                have q16 : 0 < y163.size := (by have : (0 : Int) < (y163.size : Int) := of_decide_eq_true (by (with_reducible assumption)); omega)
                have hx16 : ∀ h : 0 < y163.size, ((y163[0]'h).toNat : Int) = bt y163 0 := bt_at y163 0
                clear p16
                have qi16 : (0 < (y163.size : Int)) = True := eq_true (of_decide_eq_true (by (with_reducible assumption)))
                replace q16 := eq_true q16
                go_wp2_with (fail)
                repeat ((go_region); try go_wp2_with ((go_at_call 58; (with_reducible refine (strings_IndexByte.calls (⟨#[48, 49, 40, 41, 124, 42]⟩ : ByteArray) (bt y163 0) t164 _ A17.out).mono ?_); rintro e w' ⟨rfl, rfl⟩; have p19 : 0 ≤ (0 : Int) := (by omega); have q19 : 0 < y163.size := (by have : (0 : Int) < (y163.size : Int) := of_decide_eq_true (by (with_reducible assumption)); omega); have hx19 : ∀ h : 0 < y163.size, ((y163[0]'h).toNat : Int) = bt y163 0 := bt_at y163 0; clear p19; have qi19 : (0 < (y163.size : Int)) = True := eq_true (of_decide_eq_true (by (with_reducible assumption))); replace q19 := eq_true q19)))
                go_end0
                exact ⟨by rfl, by repeat ((with_reducible first | exact HI0.out | apply IsS75.drew | apply IsS75.set_3 | apply IsS75.set_4 | apply IsS75.set_5 | apply IsS75.set_6 | apply IsS75.set_7)), by repeat ((with_reducible first | exact HB.out | apply below_drew1 | refine below_set ?_ (IsS75.ge HI0.out))), by repeat ((with_reducible first | exact HK.out | apply KeepBut.set_ | apply keep_drew))⟩
              · rw [if_neg c18] at H
                have c18b0 : decide (0 ≤ t164) = false := decide_eq_false c18
                clear c18
                replace H := Option.bind_eq_some_iff.mp H
                obtain ⟨t165, A210, H⟩ := H
                try dsimp only at H
                have A21 := Aside0.mk A210
                clear A210
                by_cases c22 : t165 = true
                · subst c22
                  rw [if_pos rfl] at H
                  by_cases c23 : 2 ≤ (y163.size : Int)
                  · rw [if_pos c23] at H
                    have c23b0 := eq_true c23
                    have c23b1 : decide (2 ≤ (y163.size : Int)) = true := decide_eq_true c23
                    clear c23
                    obtain ⟨y166, hy166⟩ : ∃ y_ : ByteArray, y_ = (y163.extract 2 y163.size) := ⟨_, rfl⟩
                    replace H : ((expr_named.f kj1 y166 (⟨#[62]⟩ : ByteArray)).bind fun bt167 => (if bt167.2.2 > 0 then (some (s0_1, x1002_1, wrap64 ((wrap64 (x1002_1 + 2)) + bt167.2.2), 4, bt167.1, 2, 0, s0_8, s0_9, s0_10)) else (some (s0_1, x1002_1, x1002_1, 2, (⟨#[]⟩ : ByteArray), 0, 0, s0_8, s0_9, s0_10)))) = some (r1, r2, r3, r4, r5, r6, r7, r8, r9, r10) := by (rw [hy166]; with_reducible exact H)
                    have Ny166 := Aside0.mk hy166
                    clear hy166
                    have hsy166 : (y163.extract 2 y163.size) = y166 := Ny166.out.symm
                    replace H := Option.bind_eq_some_iff.mp H
                    obtain ⟨⟨t167, t168, t169⟩, A240, H⟩ := H
                    try dsimp only at H
                    have A24 := Aside0.mk A240
                    clear A240
                    by_cases c25 : t169 > 0
                    · rw [if_pos c25] at H
                      have c25b0 : decide (0 < t169) = true := decide_eq_true c25
                      clear c25
                      simp only [Option.some.injEq, Prod.mk.injEq] at H
                      obtain ⟨rfl, rfl, rfl, rfl, rfl, rfl, rfl, rfl, rfl, rfl⟩ := H
                      obtain ⟨ASz26_0, cSz26_0, HGz26, hgz26, HSz26_0, HDz26_0⟩ := HI0.out
                      obtain ⟨hcz26_0, hcz26_1, hcz26_2, hcz26_3, hcz26_4, hcz26_5, hcz26_6, hcz26_7, hcz26_8, hcz26_9, hcz26_10, -, hfz26_1, hfz26_2, hfz26_3, hfz26_4, hfz26_5, hfz26_6, hfz26_7, hfz26_8, hfz26_9, hfz26_10⟩ := Go.Proofs.YtodbnnfiadcbaaaH.cells11 HGz26
                      clear HGz26 hgz26
                      have p16 : 0 ≤ (0 : Int) := (by omega)
                      have q16 : 0 < y163.size := (by have : (0 : Int) < (y163.size : Int) := of_decide_eq_true (by (with_reducible assumption)); omega)
                      have hx16 : ∀ h : 0 < y163.size, ((y163[0]'h).toNat : Int) = bt y163 0 := bt_at y163 0
                      clear p16
                      have qi16 : (0 < (y163.size : Int)) = True := eq_true (of_decide_eq_true (by (with_reducible assumption)))
                      replace q16 := eq_true q16
                      go_wp2_with (fail)
                      repeat ((go_region); try go_wp2_with (first | (go_at_call 58; (with_reducible refine (strings_IndexByte.calls (⟨#[48, 49, 40, 41, 124, 42]⟩ : ByteArray) (bt y163 0) t164 _ A17.out).mono ?_); rintro e w' ⟨rfl, rfl⟩) | (go_at_call 59; (with_reducible refine (strings_HasPrefix.calls y163 (⟨#[60, 47]⟩ : ByteArray) true _ A21.out).mono ?_); rintro e w' ⟨rfl, ⟨nd, rfl⟩⟩) | (go_at_call 60; (with_reducible refine (expr_named.calls kj1 y166 (⟨#[62]⟩ : ByteArray) t167 t168 t169 _ A24.out).mono ?_); rintro e w' ⟨rfl, ⟨nd, rfl⟩⟩)))
                      go_end0
                      exact ⟨by rfl, by repeat ((with_reducible first | exact HI0.out | apply IsS75.drewN | apply IsS75.set_3 | apply IsS75.set_4 | apply IsS75.set_5 | apply IsS75.set_6 | apply IsS75.set_7)), by repeat ((with_reducible first | exact HB.out | apply pw_below_drewN | refine below_set ?_ (IsS75.ge HI0.out))), by repeat ((with_reducible first | exact HK.out | apply KeepBut.set_ | apply keep_drewN))⟩
                    · rw [if_neg c25] at H
                      have c25b0 : decide (0 < t169) = false := decide_eq_false c25
                      clear c25
                      simp only [Option.some.injEq, Prod.mk.injEq] at H
                      obtain ⟨rfl, rfl, rfl, rfl, rfl, rfl, rfl, rfl, rfl, rfl⟩ := H
                      obtain ⟨ASz27_0, cSz27_0, HGz27, hgz27, HSz27_0, HDz27_0⟩ := HI0.out
                      obtain ⟨hcz27_0, hcz27_1, hcz27_2, hcz27_3, hcz27_4, hcz27_5, hcz27_6, hcz27_7, hcz27_8, hcz27_9, hcz27_10, -, hfz27_1, hfz27_2, hfz27_3, hfz27_4, hfz27_5, hfz27_6, hfz27_7, hfz27_8, hfz27_9, hfz27_10⟩ := Go.Proofs.YtodbnnfiadcbaaaH.cells11 HGz27
                      clear HGz27 hgz27
                      have p16 : 0 ≤ (0 : Int) := (by omega)
                      have q16 : 0 < y163.size := (by have : (0 : Int) < (y163.size : Int) := of_decide_eq_true (by (with_reducible assumption)); omega)
                      have hx16 : ∀ h : 0 < y163.size, ((y163[0]'h).toNat : Int) = bt y163 0 := bt_at y163 0
                      clear p16
                      have qi16 : (0 < (y163.size : Int)) = True := eq_true (of_decide_eq_true (by (with_reducible assumption)))
                      replace q16 := eq_true q16
                      go_wp2_with (fail)
                      repeat ((go_region); try go_wp2_with (first | (go_at_call 58; (with_reducible refine (strings_IndexByte.calls (⟨#[48, 49, 40, 41, 124, 42]⟩ : ByteArray) (bt y163 0) t164 _ A17.out).mono ?_); rintro e w' ⟨rfl, rfl⟩) | (go_at_call 59; (with_reducible refine (strings_HasPrefix.calls y163 (⟨#[60, 47]⟩ : ByteArray) true _ A21.out).mono ?_); rintro e w' ⟨rfl, ⟨nd, rfl⟩⟩) | (go_at_call 60; (with_reducible refine (expr_named.calls kj1 y166 (⟨#[62]⟩ : ByteArray) t167 t168 t169 _ A24.out).mono ?_); rintro e w' ⟨rfl, ⟨nd, rfl⟩⟩)))
                      go_end0
                      exact ⟨by rfl, by repeat ((with_reducible first | exact HI0.out | apply IsS75.drewN | apply IsS75.set_3 | apply IsS75.set_4 | apply IsS75.set_5 | apply IsS75.set_6 | apply IsS75.set_7)), by repeat ((with_reducible first | exact HB.out | apply pw_below_drewN | refine below_set ?_ (IsS75.ge HI0.out))), by repeat ((with_reducible first | exact HK.out | apply KeepBut.set_ | apply keep_drewN))⟩
                  · rw [if_neg c23] at H
                    exact absurd H (by simp)
                · replace c22 := Bool.eq_false_iff.mpr c22
                  subst c22
                  rw [if_neg (show ¬ (false = true) by decide)] at H
                  by_cases c29 : (bt y163 0) = 60
                  · rw [if_pos c29] at H
                    have c29b0 : ((bt y163 0) == 60) = true := beq_iff_eq.mpr c29
                    have c29b1 : ((bt y163 0) != 60) = false := bne_eq_false_iff_eq.mpr c29
                    clear c29
                    by_cases c30 : 1 ≤ (y163.size : Int)
                    · rw [if_pos c30] at H
                      have c30b0 := eq_true c30
                      have c30b1 : decide (1 ≤ (y163.size : Int)) = true := decide_eq_true c30
                      clear c30
                      obtain ⟨y170, hy170⟩ : ∃ y_ : ByteArray, y_ = (y163.extract 1 y163.size) := ⟨_, rfl⟩
                      replace H : ((expr_named.f kj1 y170 (⟨#[62, 91]⟩ : ByteArray)).bind fun bt171 => (if bt171.2.2 > 0 then (if bt171.2.1 = 91 then (some (s0_1, x1002_1, wrap64 ((wrap64 (x1002_1 + 1)) + bt171.2.2), 5, bt171.1, 1, 0, s0_8, s0_9, s0_10)) else (some (s0_1, x1002_1, wrap64 ((wrap64 (x1002_1 + 1)) + bt171.2.2), 4, bt171.1, 1, 0, s0_8, s0_9, s0_10))) else (some (s0_1, x1002_1, x1002_1, 2, (⟨#[]⟩ : ByteArray), 0, 0, s0_8, s0_9, s0_10)))) = some (r1, r2, r3, r4, r5, r6, r7, r8, r9, r10) := by (rw [hy170]; with_reducible exact H)
                      have Ny170 := Aside0.mk hy170
                      clear hy170
                      have hsy170 : (y163.extract 1 y163.size) = y170 := Ny170.out.symm
                      replace H := Option.bind_eq_some_iff.mp H
                      obtain ⟨⟨t171, t172, t173⟩, A310, H⟩ := H
                      try dsimp only at H
                      have A31 := Aside0.mk A310
                      clear A310
                      by_cases c32 : t173 > 0
                      · rw [if_pos c32] at H
                        have c32b0 : decide (0 < t173) = true := decide_eq_true c32
                        clear c32
                        by_cases c33 : t172 = 91
                        · rw [if_pos c33] at H
                          have c33b0 : (t172 == 91) = true := beq_iff_eq.mpr c33
                          have c33b1 : (t172 != 91) = false := bne_eq_false_iff_eq.mpr c33
                          clear c33
                          simp only [Option.some.injEq, Prod.mk.injEq] at H
                          obtain ⟨rfl, rfl, rfl, rfl, rfl, rfl, rfl, rfl, rfl, rfl⟩ := H
                          obtain ⟨ASz34_0, cSz34_0, HGz34, hgz34, HSz34_0, HDz34_0⟩ := HI0.out
                          obtain ⟨hcz34_0, hcz34_1, hcz34_2, hcz34_3, hcz34_4, hcz34_5, hcz34_6, hcz34_7, hcz34_8, hcz34_9, hcz34_10, -, hfz34_1, hfz34_2, hfz34_3, hfz34_4, hfz34_5, hfz34_6, hfz34_7, hfz34_8, hfz34_9, hfz34_10⟩ := Go.Proofs.YtodbnnfiadcbaaaH.cells11 HGz34
                          clear HGz34 hgz34
                          have p16 : 0 ≤ (0 : Int) := (by omega)
                          have q16 : 0 < y163.size := (by have : (0 : Int) < (y163.size : Int) := of_decide_eq_true (by (with_reducible assumption)); omega)
                          have hx16 : ∀ h : 0 < y163.size, ((y163[0]'h).toNat : Int) = bt y163 0 := bt_at y163 0
                          clear p16
                          have qi16 : (0 < (y163.size : Int)) = True := eq_true (of_decide_eq_true (by (with_reducible assumption)))
                          replace q16 := eq_true q16
                          go_wp2_with (fail)
                          repeat ((go_region); try go_wp2_with (first | (go_at_call 58; (with_reducible refine (strings_IndexByte.calls (⟨#[48, 49, 40, 41, 124, 42]⟩ : ByteArray) (bt y163 0) t164 _ A17.out).mono ?_); rintro e w' ⟨rfl, rfl⟩) | (go_at_call 59; (with_reducible refine (strings_HasPrefix.calls y163 (⟨#[60, 47]⟩ : ByteArray) false _ A21.out).mono ?_); rintro e w' ⟨rfl, ⟨nd, rfl⟩⟩; have p28 : 0 ≤ (0 : Int) := (by omega); have q28 : 0 < y163.size := (by have : (0 : Int) < (y163.size : Int) := of_decide_eq_true (by (with_reducible assumption)); omega); have hx28 : ∀ h : 0 < y163.size, ((y163[0]'h).toNat : Int) = bt y163 0 := bt_at y163 0; clear p28; have qi28 : (0 < (y163.size : Int)) = True := eq_true (of_decide_eq_true (by (with_reducible assumption))); replace q28 := eq_true q28) | (go_at_call 60; (with_reducible refine (expr_named.calls kj1 y170 (⟨#[62, 91]⟩ : ByteArray) t171 t172 t173 _ A31.out).mono ?_); rintro e w' ⟨rfl, ⟨nd, rfl⟩⟩)))
                          go_end0
                          exact ⟨by rfl, by repeat ((with_reducible first | exact HI0.out | apply IsS75.drewN | apply IsS75.set_3 | apply IsS75.set_4 | apply IsS75.set_5 | apply IsS75.set_6 | apply IsS75.set_7)), by repeat ((with_reducible first | exact HB.out | apply pw_below_drewN | refine below_set ?_ (IsS75.ge HI0.out))), by repeat ((with_reducible first | exact HK.out | apply KeepBut.set_ | apply keep_drewN))⟩
                        · rw [if_neg c33] at H
                          have c33b0 : (t172 == 91) = false := beq_eq_false_iff_ne.mpr c33
                          have c33b1 : (t172 != 91) = true := bne_iff_ne.mpr c33
                          simp only [Option.some.injEq, Prod.mk.injEq] at H
                          obtain ⟨rfl, rfl, rfl, rfl, rfl, rfl, rfl, rfl, rfl, rfl⟩ := H
                          obtain ⟨ASz35_0, cSz35_0, HGz35, hgz35, HSz35_0, HDz35_0⟩ := HI0.out
                          obtain ⟨hcz35_0, hcz35_1, hcz35_2, hcz35_3, hcz35_4, hcz35_5, hcz35_6, hcz35_7, hcz35_8, hcz35_9, hcz35_10, -, hfz35_1, hfz35_2, hfz35_3, hfz35_4, hfz35_5, hfz35_6, hfz35_7, hfz35_8, hfz35_9, hfz35_10⟩ := Go.Proofs.YtodbnnfiadcbaaaH.cells11 HGz35
                          clear HGz35 hgz35
                          have p16 : 0 ≤ (0 : Int) := (by omega)
                          have q16 : 0 < y163.size := (by have : (0 : Int) < (y163.size : Int) := of_decide_eq_true (by (with_reducible assumption)); omega)
                          have hx16 : ∀ h : 0 < y163.size, ((y163[0]'h).toNat : Int) = bt y163 0 := bt_at y163 0
                          clear p16
                          have qi16 : (0 < (y163.size : Int)) = True := eq_true (of_decide_eq_true (by (with_reducible assumption)))
                          replace q16 := eq_true q16
                          go_wp2_with (fail)
                          repeat ((go_region); try go_wp2_with (first | (go_at_call 58; (with_reducible refine (strings_IndexByte.calls (⟨#[48, 49, 40, 41, 124, 42]⟩ : ByteArray) (bt y163 0) t164 _ A17.out).mono ?_); rintro e w' ⟨rfl, rfl⟩) | (go_at_call 59; (with_reducible refine (strings_HasPrefix.calls y163 (⟨#[60, 47]⟩ : ByteArray) false _ A21.out).mono ?_); rintro e w' ⟨rfl, ⟨nd, rfl⟩⟩; have p28 : 0 ≤ (0 : Int) := (by omega); have q28 : 0 < y163.size := (by have : (0 : Int) < (y163.size : Int) := of_decide_eq_true (by (with_reducible assumption)); omega); have hx28 : ∀ h : 0 < y163.size, ((y163[0]'h).toNat : Int) = bt y163 0 := bt_at y163 0; clear p28; have qi28 : (0 < (y163.size : Int)) = True := eq_true (of_decide_eq_true (by (with_reducible assumption))); replace q28 := eq_true q28) | (go_at_call 60; (with_reducible refine (expr_named.calls kj1 y170 (⟨#[62, 91]⟩ : ByteArray) t171 t172 t173 _ A31.out).mono ?_); rintro e w' ⟨rfl, ⟨nd, rfl⟩⟩)))
                          go_end0
                          exact ⟨by rfl, by repeat ((with_reducible first | exact HI0.out | apply IsS75.drewN | apply IsS75.set_3 | apply IsS75.set_4 | apply IsS75.set_5 | apply IsS75.set_6 | apply IsS75.set_7)), by repeat ((with_reducible first | exact HB.out | apply pw_below_drewN | refine below_set ?_ (IsS75.ge HI0.out))), by repeat ((with_reducible first | exact HK.out | apply KeepBut.set_ | apply keep_drewN))⟩
                      · rw [if_neg c32] at H
                        have c32b0 : decide (0 < t173) = false := decide_eq_false c32
                        clear c32
                        simp only [Option.some.injEq, Prod.mk.injEq] at H
                        obtain ⟨rfl, rfl, rfl, rfl, rfl, rfl, rfl, rfl, rfl, rfl⟩ := H
                        obtain ⟨ASz36_0, cSz36_0, HGz36, hgz36, HSz36_0, HDz36_0⟩ := HI0.out
                        obtain ⟨hcz36_0, hcz36_1, hcz36_2, hcz36_3, hcz36_4, hcz36_5, hcz36_6, hcz36_7, hcz36_8, hcz36_9, hcz36_10, -, hfz36_1, hfz36_2, hfz36_3, hfz36_4, hfz36_5, hfz36_6, hfz36_7, hfz36_8, hfz36_9, hfz36_10⟩ := Go.Proofs.YtodbnnfiadcbaaaH.cells11 HGz36
                        clear HGz36 hgz36
                        have p16 : 0 ≤ (0 : Int) := (by omega)
                        have q16 : 0 < y163.size := (by have : (0 : Int) < (y163.size : Int) := of_decide_eq_true (by (with_reducible assumption)); omega)
                        have hx16 : ∀ h : 0 < y163.size, ((y163[0]'h).toNat : Int) = bt y163 0 := bt_at y163 0
                        clear p16
                        have qi16 : (0 < (y163.size : Int)) = True := eq_true (of_decide_eq_true (by (with_reducible assumption)))
                        replace q16 := eq_true q16
                        go_wp2_with (fail)
                        repeat ((go_region); try go_wp2_with (first | (go_at_call 58; (with_reducible refine (strings_IndexByte.calls (⟨#[48, 49, 40, 41, 124, 42]⟩ : ByteArray) (bt y163 0) t164 _ A17.out).mono ?_); rintro e w' ⟨rfl, rfl⟩) | (go_at_call 59; (with_reducible refine (strings_HasPrefix.calls y163 (⟨#[60, 47]⟩ : ByteArray) false _ A21.out).mono ?_); rintro e w' ⟨rfl, ⟨nd, rfl⟩⟩; have p28 : 0 ≤ (0 : Int) := (by omega); have q28 : 0 < y163.size := (by have : (0 : Int) < (y163.size : Int) := of_decide_eq_true (by (with_reducible assumption)); omega); have hx28 : ∀ h : 0 < y163.size, ((y163[0]'h).toNat : Int) = bt y163 0 := bt_at y163 0; clear p28; have qi28 : (0 < (y163.size : Int)) = True := eq_true (of_decide_eq_true (by (with_reducible assumption))); replace q28 := eq_true q28) | (go_at_call 60; (with_reducible refine (expr_named.calls kj1 y170 (⟨#[62, 91]⟩ : ByteArray) t171 t172 t173 _ A31.out).mono ?_); rintro e w' ⟨rfl, ⟨nd, rfl⟩⟩)))
                        go_end0
                        exact ⟨by rfl, by repeat ((with_reducible first | exact HI0.out | apply IsS75.drewN | apply IsS75.set_3 | apply IsS75.set_4 | apply IsS75.set_5 | apply IsS75.set_6 | apply IsS75.set_7)), by repeat ((with_reducible first | exact HB.out | apply pw_below_drewN | refine below_set ?_ (IsS75.ge HI0.out))), by repeat ((with_reducible first | exact HK.out | apply KeepBut.set_ | apply keep_drewN))⟩
                    · rw [if_neg c30] at H
                      exact absurd H (by simp)
                  · rw [if_neg c29] at H
                    have c29b0 : ((bt y163 0) == 60) = false := beq_eq_false_iff_ne.mpr c29
                    have c29b1 : ((bt y163 0) != 60) = true := bne_iff_ne.mpr c29
                    by_cases c38 : (bt y163 0) = 93
                    · rw [if_pos c38] at H
                      have c38b0 : ((bt y163 0) == 93) = true := beq_iff_eq.mpr c38
                      have c38b1 : ((bt y163 0) != 93) = false := bne_eq_false_iff_eq.mpr c38
                      clear c38
                      by_cases c39 : 1 ≤ (y163.size : Int)
                      · rw [if_pos c39] at H
                        have c39b0 := eq_true c39
                        have c39b1 : decide (1 ≤ (y163.size : Int)) = true := decide_eq_true c39
                        clear c39
                        obtain ⟨y174, hy174⟩ : ∃ y_ : ByteArray, y_ = (y163.extract 1 y163.size) := ⟨_, rfl⟩
                        replace H : ((expr_named.f kj1 y174 (⟨#[62]⟩ : ByteArray)).bind fun bt175 => (if bt175.2.2 > 0 then (some (s0_1, x1002_1, wrap64 ((wrap64 (x1002_1 + 1)) + bt175.2.2), 6, bt175.1, 2, 0, s0_8, s0_9, s0_10)) else (some (s0_1, x1002_1, x1002_1, 2, (⟨#[]⟩ : ByteArray), 0, 0, s0_8, s0_9, s0_10)))) = some (r1, r2, r3, r4, r5, r6, r7, r8, r9, r10) := by (rw [hy174]; with_reducible exact H)
                        have Ny174 := Aside0.mk hy174
                        clear hy174
                        have hsy174 : (y163.extract 1 y163.size) = y174 := Ny174.out.symm
                        replace H := Option.bind_eq_some_iff.mp H
                        obtain ⟨⟨t175, t176, t177⟩, A400, H⟩ := H
                        try dsimp only at H
                        have A40 := Aside0.mk A400
                        clear A400
                        by_cases c41 : t177 > 0
                        · rw [if_pos c41] at H
                          have c41b0 : decide (0 < t177) = true := decide_eq_true c41
                          clear c41
                          simp only [Option.some.injEq, Prod.mk.injEq] at H
                          obtain ⟨rfl, rfl, rfl, rfl, rfl, rfl, rfl, rfl, rfl, rfl⟩ := H
                          obtain ⟨ASz42_0, cSz42_0, HGz42, hgz42, HSz42_0, HDz42_0⟩ := HI0.out
                          obtain ⟨hcz42_0, hcz42_1, hcz42_2, hcz42_3, hcz42_4, hcz42_5, hcz42_6, hcz42_7, hcz42_8, hcz42_9, hcz42_10, -, hfz42_1, hfz42_2, hfz42_3, hfz42_4, hfz42_5, hfz42_6, hfz42_7, hfz42_8, hfz42_9, hfz42_10⟩ := Go.Proofs.YtodbnnfiadcbaaaH.cells11 HGz42
                          clear HGz42 hgz42
                          have p16 : 0 ≤ (0 : Int) := (by omega)
                          have q16 : 0 < y163.size := (by have : (0 : Int) < (y163.size : Int) := of_decide_eq_true (by (with_reducible assumption)); omega)
                          have hx16 : ∀ h : 0 < y163.size, ((y163[0]'h).toNat : Int) = bt y163 0 := bt_at y163 0
                          clear p16
                          have qi16 : (0 < (y163.size : Int)) = True := eq_true (of_decide_eq_true (by (with_reducible assumption)))
                          replace q16 := eq_true q16
                          go_wp2_with (fail)
                          repeat ((go_region); try go_wp2_with (first | (go_at_call 58; (with_reducible refine (strings_IndexByte.calls (⟨#[48, 49, 40, 41, 124, 42]⟩ : ByteArray) (bt y163 0) t164 _ A17.out).mono ?_); rintro e w' ⟨rfl, rfl⟩) | (go_at_call 59; (with_reducible refine (strings_HasPrefix.calls y163 (⟨#[60, 47]⟩ : ByteArray) false _ A21.out).mono ?_); rintro e w' ⟨rfl, ⟨nd, rfl⟩⟩; have p28 : 0 ≤ (0 : Int) := (by omega); have q28 : 0 < y163.size := (by have : (0 : Int) < (y163.size : Int) := of_decide_eq_true (by (with_reducible assumption)); omega); have hx28 : ∀ h : 0 < y163.size, ((y163[0]'h).toNat : Int) = bt y163 0 := bt_at y163 0; clear p28; have qi28 : (0 < (y163.size : Int)) = True := eq_true (of_decide_eq_true (by (with_reducible assumption))); replace q28 := eq_true q28; have p37 : 0 ≤ (0 : Int) := (by omega); have q37 : 0 < y163.size := (by have : (0 : Int) < (y163.size : Int) := of_decide_eq_true (by (with_reducible assumption)); omega); have hx37 : ∀ h : 0 < y163.size, ((y163[0]'h).toNat : Int) = bt y163 0 := bt_at y163 0; clear p37; have qi37 : (0 < (y163.size : Int)) = True := eq_true (of_decide_eq_true (by (with_reducible assumption))); replace q37 := eq_true q37) | (go_at_call 60; (with_reducible refine (expr_named.calls kj1 y174 (⟨#[62]⟩ : ByteArray) t175 t176 t177 _ A40.out).mono ?_); rintro e w' ⟨rfl, ⟨nd, rfl⟩⟩)))
                          go_end0
                          exact ⟨by rfl, by repeat ((with_reducible first | exact HI0.out | apply IsS75.drewN | apply IsS75.set_3 | apply IsS75.set_4 | apply IsS75.set_5 | apply IsS75.set_6 | apply IsS75.set_7)), by repeat ((with_reducible first | exact HB.out | apply pw_below_drewN | refine below_set ?_ (IsS75.ge HI0.out))), by repeat ((with_reducible first | exact HK.out | apply KeepBut.set_ | apply keep_drewN))⟩
                        · rw [if_neg c41] at H
                          have c41b0 : decide (0 < t177) = false := decide_eq_false c41
                          clear c41
                          simp only [Option.some.injEq, Prod.mk.injEq] at H
                          obtain ⟨rfl, rfl, rfl, rfl, rfl, rfl, rfl, rfl, rfl, rfl⟩ := H
                          obtain ⟨ASz43_0, cSz43_0, HGz43, hgz43, HSz43_0, HDz43_0⟩ := HI0.out
                          obtain ⟨hcz43_0, hcz43_1, hcz43_2, hcz43_3, hcz43_4, hcz43_5, hcz43_6, hcz43_7, hcz43_8, hcz43_9, hcz43_10, -, hfz43_1, hfz43_2, hfz43_3, hfz43_4, hfz43_5, hfz43_6, hfz43_7, hfz43_8, hfz43_9, hfz43_10⟩ := Go.Proofs.YtodbnnfiadcbaaaH.cells11 HGz43
                          clear HGz43 hgz43
                          have p16 : 0 ≤ (0 : Int) := (by omega)
                          have q16 : 0 < y163.size := (by have : (0 : Int) < (y163.size : Int) := of_decide_eq_true (by (with_reducible assumption)); omega)
                          have hx16 : ∀ h : 0 < y163.size, ((y163[0]'h).toNat : Int) = bt y163 0 := bt_at y163 0
                          clear p16
                          have qi16 : (0 < (y163.size : Int)) = True := eq_true (of_decide_eq_true (by (with_reducible assumption)))
                          replace q16 := eq_true q16
                          go_wp2_with (fail)
                          repeat ((go_region); try go_wp2_with (first | (go_at_call 58; (with_reducible refine (strings_IndexByte.calls (⟨#[48, 49, 40, 41, 124, 42]⟩ : ByteArray) (bt y163 0) t164 _ A17.out).mono ?_); rintro e w' ⟨rfl, rfl⟩) | (go_at_call 59; (with_reducible refine (strings_HasPrefix.calls y163 (⟨#[60, 47]⟩ : ByteArray) false _ A21.out).mono ?_); rintro e w' ⟨rfl, ⟨nd, rfl⟩⟩; have p28 : 0 ≤ (0 : Int) := (by omega); have q28 : 0 < y163.size := (by have : (0 : Int) < (y163.size : Int) := of_decide_eq_true (by (with_reducible assumption)); omega); have hx28 : ∀ h : 0 < y163.size, ((y163[0]'h).toNat : Int) = bt y163 0 := bt_at y163 0; clear p28; have qi28 : (0 < (y163.size : Int)) = True := eq_true (of_decide_eq_true (by (with_reducible assumption))); replace q28 := eq_true q28; have p37 : 0 ≤ (0 : Int) := (by omega); have q37 : 0 < y163.size := (by have : (0 : Int) < (y163.size : Int) := of_decide_eq_true (by (with_reducible assumption)); omega); have hx37 : ∀ h : 0 < y163.size, ((y163[0]'h).toNat : Int) = bt y163 0 := bt_at y163 0; clear p37; have qi37 : (0 < (y163.size : Int)) = True := eq_true (of_decide_eq_true (by (with_reducible assumption))); replace q37 := eq_true q37) | (go_at_call 60; (with_reducible refine (expr_named.calls kj1 y174 (⟨#[62]⟩ : ByteArray) t175 t176 t177 _ A40.out).mono ?_); rintro e w' ⟨rfl, ⟨nd, rfl⟩⟩)))
                          go_end0
                          exact ⟨by rfl, by repeat ((with_reducible first | exact HI0.out | apply IsS75.drewN | apply IsS75.set_3 | apply IsS75.set_4 | apply IsS75.set_5 | apply IsS75.set_6 | apply IsS75.set_7)), by repeat ((with_reducible first | exact HB.out | apply pw_below_drewN | refine below_set ?_ (IsS75.ge HI0.out))), by repeat ((with_reducible first | exact HK.out | apply KeepBut.set_ | apply keep_drewN))⟩
                      · rw [if_neg c39] at H
                        exact absurd H (by simp)
                    · rw [if_neg c38] at H
                      have c38b0 : ((bt y163 0) == 93) = false := beq_eq_false_iff_ne.mpr c38
                      have c38b1 : ((bt y163 0) != 93) = true := bne_iff_ne.mpr c38
                      replace H := Option.bind_eq_some_iff.mp H
                      obtain ⟨⟨t178, t179, t180⟩, A440, H⟩ := H
                      try dsimp only at H
                      have A44 := Aside0.mk A440
                      clear A440
                      by_cases c45 : t180 > 0
                      · rw [if_pos c45] at H
                        have c45b0 : decide (0 < t180) = true := decide_eq_true c45
                        clear c45
                        simp only [Option.some.injEq, Prod.mk.injEq] at H
                        obtain ⟨rfl, rfl, rfl, rfl, rfl, rfl, rfl, rfl, rfl, rfl⟩ := H
                        obtain ⟨ASz46_0, cSz46_0, HGz46, hgz46, HSz46_0, HDz46_0⟩ := HI0.out
                        obtain ⟨hcz46_0, hcz46_1, hcz46_2, hcz46_3, hcz46_4, hcz46_5, hcz46_6, hcz46_7, hcz46_8, hcz46_9, hcz46_10, -, hfz46_1, hfz46_2, hfz46_3, hfz46_4, hfz46_5, hfz46_6, hfz46_7, hfz46_8, hfz46_9, hfz46_10⟩ := Go.Proofs.YtodbnnfiadcbaaaH.cells11 HGz46
                        clear HGz46 hgz46
                        have p16 : 0 ≤ (0 : Int) := (by omega)
                        have q16 : 0 < y163.size := (by have : (0 : Int) < (y163.size : Int) := of_decide_eq_true (by (with_reducible assumption)); omega)
                        have hx16 : ∀ h : 0 < y163.size, ((y163[0]'h).toNat : Int) = bt y163 0 := bt_at y163 0
                        clear p16
                        have qi16 : (0 < (y163.size : Int)) = True := eq_true (of_decide_eq_true (by (with_reducible assumption)))
                        replace q16 := eq_true q16
                        go_wp2_with (fail)
                        repeat ((go_region); try go_wp2_with (first | (go_at_call 58; (with_reducible refine (strings_IndexByte.calls (⟨#[48, 49, 40, 41, 124, 42]⟩ : ByteArray) (bt y163 0) t164 _ A17.out).mono ?_); rintro e w' ⟨rfl, rfl⟩) | (go_at_call 59; (with_reducible refine (strings_HasPrefix.calls y163 (⟨#[60, 47]⟩ : ByteArray) false _ A21.out).mono ?_); rintro e w' ⟨rfl, ⟨nd, rfl⟩⟩; have p28 : 0 ≤ (0 : Int) := (by omega); have q28 : 0 < y163.size := (by have : (0 : Int) < (y163.size : Int) := of_decide_eq_true (by (with_reducible assumption)); omega); have hx28 : ∀ h : 0 < y163.size, ((y163[0]'h).toNat : Int) = bt y163 0 := bt_at y163 0; clear p28; have qi28 : (0 < (y163.size : Int)) = True := eq_true (of_decide_eq_true (by (with_reducible assumption))); replace q28 := eq_true q28; have p37 : 0 ≤ (0 : Int) := (by omega); have q37 : 0 < y163.size := (by have : (0 : Int) < (y163.size : Int) := of_decide_eq_true (by (with_reducible assumption)); omega); have hx37 : ∀ h : 0 < y163.size, ((y163[0]'h).toNat : Int) = bt y163 0 := bt_at y163 0; clear p37; have qi37 : (0 < (y163.size : Int)) = True := eq_true (of_decide_eq_true (by (with_reducible assumption))); replace q37 := eq_true q37) | (go_at_call 60; (with_reducible refine (expr_named.calls kj1 y163 (⟨#[]⟩ : ByteArray) t178 t179 t180 _ A44.out).mono ?_); rintro e w' ⟨rfl, ⟨nd, rfl⟩⟩)))
                        go_end0
                        exact ⟨by rfl, by repeat ((with_reducible first | exact HI0.out | apply IsS75.drewN | apply IsS75.set_3 | apply IsS75.set_4 | apply IsS75.set_5 | apply IsS75.set_6 | apply IsS75.set_7)), by repeat ((with_reducible first | exact HB.out | apply pw_below_drewN | refine below_set ?_ (IsS75.ge HI0.out))), by repeat ((with_reducible first | exact HK.out | apply KeepBut.set_ | apply keep_drewN))⟩
                      · rw [if_neg c45] at H
                        have c45b0 : decide (0 < t180) = false := decide_eq_false c45
                        clear c45
                        simp only [Option.some.injEq, Prod.mk.injEq] at H
                        obtain ⟨rfl, rfl, rfl, rfl, rfl, rfl, rfl, rfl, rfl, rfl⟩ := H
                        obtain ⟨ASz47_0, cSz47_0, HGz47, hgz47, HSz47_0, HDz47_0⟩ := HI0.out
                        obtain ⟨hcz47_0, hcz47_1, hcz47_2, hcz47_3, hcz47_4, hcz47_5, hcz47_6, hcz47_7, hcz47_8, hcz47_9, hcz47_10, -, hfz47_1, hfz47_2, hfz47_3, hfz47_4, hfz47_5, hfz47_6, hfz47_7, hfz47_8, hfz47_9, hfz47_10⟩ := Go.Proofs.YtodbnnfiadcbaaaH.cells11 HGz47
                        clear HGz47 hgz47
                        have p16 : 0 ≤ (0 : Int) := (by omega)
                        have q16 : 0 < y163.size := (by have : (0 : Int) < (y163.size : Int) := of_decide_eq_true (by (with_reducible assumption)); omega)
                        have hx16 : ∀ h : 0 < y163.size, ((y163[0]'h).toNat : Int) = bt y163 0 := bt_at y163 0
                        clear p16
                        have qi16 : (0 < (y163.size : Int)) = True := eq_true (of_decide_eq_true (by (with_reducible assumption)))
                        replace q16 := eq_true q16
                        go_wp2_with (fail)
                        repeat ((go_region); try go_wp2_with (first | (go_at_call 58; (with_reducible refine (strings_IndexByte.calls (⟨#[48, 49, 40, 41, 124, 42]⟩ : ByteArray) (bt y163 0) t164 _ A17.out).mono ?_); rintro e w' ⟨rfl, rfl⟩) | (go_at_call 59; (with_reducible refine (strings_HasPrefix.calls y163 (⟨#[60, 47]⟩ : ByteArray) false _ A21.out).mono ?_); rintro e w' ⟨rfl, ⟨nd, rfl⟩⟩; have p28 : 0 ≤ (0 : Int) := (by omega); have q28 : 0 < y163.size := (by have : (0 : Int) < (y163.size : Int) := of_decide_eq_true (by (with_reducible assumption)); omega); have hx28 : ∀ h : 0 < y163.size, ((y163[0]'h).toNat : Int) = bt y163 0 := bt_at y163 0; clear p28; have qi28 : (0 < (y163.size : Int)) = True := eq_true (of_decide_eq_true (by (with_reducible assumption))); replace q28 := eq_true q28; have p37 : 0 ≤ (0 : Int) := (by omega); have q37 : 0 < y163.size := (by have : (0 : Int) < (y163.size : Int) := of_decide_eq_true (by (with_reducible assumption)); omega); have hx37 : ∀ h : 0 < y163.size, ((y163[0]'h).toNat : Int) = bt y163 0 := bt_at y163 0; clear p37; have qi37 : (0 < (y163.size : Int)) = True := eq_true (of_decide_eq_true (by (with_reducible assumption))); replace q37 := eq_true q37) | (go_at_call 60; (with_reducible refine (expr_named.calls kj1 y163 (⟨#[]⟩ : ByteArray) t178 t179 t180 _ A44.out).mono ?_); rintro e w' ⟨rfl, ⟨nd, rfl⟩⟩)))
                        go_end0
                        exact ⟨by rfl, by repeat ((with_reducible first | exact HI0.out | apply IsS75.drewN | apply IsS75.set_3 | apply IsS75.set_4 | apply IsS75.set_5 | apply IsS75.set_6 | apply IsS75.set_7)), by repeat ((with_reducible first | exact HB.out | apply pw_below_drewN | refine below_set ?_ (IsS75.ge HI0.out))), by repeat ((with_reducible first | exact HK.out | apply KeepBut.set_ | apply keep_drewN))⟩
            · rw [if_neg c15] at H
              exact absurd H (by simp)
        · rw [if_neg c12] at H
          exact absurd H (by simp)
      · rw [if_neg c11] at H
        exact absurd H (by simp)

end Go.Proofs.Ytodbnnfiadcbaaa.P
namespace Go.Proofs.Ytodbnnfiadcbaaa.P
open Go.RowKit Go.Proofs.YtodbnnfiadcbaaaW.PrintWords Go.Proofs.YtodbnnfiadcbaaaW.PrintLast Go.Proofs.YtodbnnfiadcbaaaW.PrintMore
attribute [local go_sem] max2_int min2_int max_two min_two max_three min_three max_four min_four   -- for this text's walks alone
set_option linter.unusedVariables false
set_option linter.unusedSimpArgs false

attribute [local go_sem high] eqA73
/-! ### expr_several: function 63 -/
def expr_several.f (a0 : Int) (l1 : List (S28)) : Option (Int × Int × Int × (List (S28))) := if (l1.length : Int) = 1 then (if 0 < (l1.length : Int) then (some ((rd_T28 l1 0).f0, (rd_T28 l1 0).f1, (rd_T28 l1 0).f2, (rd_T28 l1 0).f3)) else (none)) else (some (a0, 0, 0, (l1.take ((l1.length : Int) : Int).toNat)))
set_option maxHeartbeats 8000000 in
set_option maxRecDepth 100000 in
theorem expr_several.calls (a0 : Int) (P1_ : Nat → Prop) (A1 : Option Addr) (c1 : Nat) (l1 : List (S28)) (r1 : Int) (r2 : Int) (r3 : Int) (r4 : List (S28)) (w : World) (hs1 : Kd.V k28 28 w w.heap.size (fun k_ => P1_ k_) (.slice A1 l1.length c1) l1) (h : expr_several.f a0 l1 = some (r1, r2, r3, r4)) :
    Calls Try.prog 63 #[.int .i64 a0, .slice A1 l1.length c1] w fun e w' => ∃ v3_ : Value, e = .returned (.agg #[.int .i64 r1, .int .i64 r2, .int .i64 r3, v3_]) ∧ Kd.V k28 28 w' w.heap.size (fun k_ => (P1_ k_ ∨ w.heap.size ≤ k_)) v3_ r4 ∧ Below w.heap.size w w' := by
  have hu28 := Try.underlying28
  have HO1 := Aside0.mk (show Kd.V k28 28 w w.heap.size (fun k_ => (P1_ k_ ∨ w.heap.size ≤ k_)) (.slice A1 l1.length c1) l1 from Kd.V_mono hs1 (fun k_ hk => .inl hk))
  have HB := Aside0.mk (Below.refl w.heap.size w)
  have H : (if (l1.length : Int) = 1 then (if 0 < (l1.length : Int) then (some ((rd_T28 l1 0).f0, (rd_T28 l1 0).f1, (rd_T28 l1 0).f2, (rd_T28 l1 0).f3)) else (none)) else (some (a0, 0, 0, (l1.take ((l1.length : Int) : Int).toNat)))) = some (r1, r2, r3, r4) := h
  clear h
  by_cases c3 : (l1.length : Int) = 1
  · rw [if_pos c3] at H
    have c3b0 : ((l1.length : Int) == 1) = true := beq_iff_eq.mpr c3
    have c3b1 : ((l1.length : Int) != 1) = false := bne_eq_false_iff_eq.mpr c3
    clear c3
    by_cases c4 : 0 < (l1.length : Int)
    · rw [if_pos c4] at H
      have c4b0 : decide (0 < (l1.length : Int)) = true := decide_eq_true c4
      have c4b1 : decide (0 < l1.length) = true := decide_eq_true (by omega)
      clear c4
      simp only [Option.some.injEq, Prod.mk.injEq] at H
      obtain ⟨rfl, rfl, rfl, rfl⟩ := H
      go_enter Try.func63, Try.ntmps63
      go_wp2_with (((with_reducible refine gate_dst (N := 4) rfl ?_); refine box_event ?hg (N := 4) ?hd (cs := #[.int .i64 0, .int .i64 0, .int .i64 0, .slice none 0 0]) (t := 28) ?hr ?_; (case hd => rfl); (case hg => rfl); (case hr => (go_simp; done)); intro gb181 hg w5 hbox hb; have n0_ := Aside0.mk (Kd.V_below (Kd.V_elderB HO1.out gb181 (Nat.le_of_eq hg.symm)) hb); have n1_ := Aside0.mk (below_step HB.out hb); have n2_ := Aside0.mk (hbox); have n3_ := Aside0.mk ((by rw [hg]; exact (below_size HB.out) : w.heap.size ≤ gb181)); have n4_ := Aside0.mk ((by rw [hg]; exact (below_size HB.out) : w.heap.size ≤ gb181)); clear HO1 HB; have HO1 := n0_; have HB := n1_; have BK181 := n2_; have GW181 := n3_; have GE181 := n4_; clear n0_ n1_ n2_ n3_ n4_ hb hbox hg; have p182 : 0 ≤ (0 : Int) := (by omega); have q182 : 0 < (l1.length : Int) := of_decide_eq_true (by (with_reducible assumption)); obtain ⟨ad182, A182_3, c182_3, e182, hx182_0, hx182_1, hx182_2, hx182_3, hl182_3, hi182_3⟩ := at_T28 (Kd.V_reads' HO1.out).2.2 0 p182 q182; cases e182; obtain ⟨ce182, hce182, hMe182, hcc182⟩ := Kd.V_get HO1.out z28 0 p182 (by exact q182); obtain ⟨ua182_3, uc182_3, rfl, ul182_3, ge182_3⟩ := k28_openF hMe182; have hv182_3 := hcc182 3 _ rfl; rw [add_field _ _ 3 (by omega)] at hv182_3; replace hv182_3 := Option.some.inj (hv182_3.symm.trans hx182_3); injection hv182_3 with hva_ hvn_ hvc_; rw [hva_] at ge182_3; rw [hvc_] at ul182_3; have HL182_3 := Aside0.mk (show Kd.V k28 28 _ w.heap.size _ _ ((rd_T28 l1 0).f3) from Kd.V_mk ul182_3 ge182_3); clear hva_ hvn_ hvc_ ge182_3 ul182_3 hcc182 hce182; have qi182 : (0 < l1.length) = True := eq_true (by omega); (rw [show ((0 : Int)).toNat = 0 from rfl] at hx182_0); (rw [show 0 * 4 = 0 from rfl] at hx182_0); (rw [Addr.add_zero'] at hx182_0); (rw [show ((0 : Int)).toNat = 0 from rfl] at hx182_1); (rw [show 0 * 4 = 0 from rfl] at hx182_1); (rw [Addr.add_zero'] at hx182_1); (rw [show ((0 : Int)).toNat = 0 from rfl] at hx182_2); (rw [show 0 * 4 = 0 from rfl] at hx182_2); (rw [Addr.add_zero'] at hx182_2); (rw [show ((0 : Int)).toNat = 0 from rfl] at hx182_3); (rw [show 0 * 4 = 0 from rfl] at hx182_3); (rw [Addr.add_zero'] at hx182_3); have HR182_3 := Aside0.mk hi182_3; have HC182_3 := Aside0.mk hl182_3; clear hi182_3 hl182_3; replace p182 := eq_true p182; replace q182 := eq_true q182; obtain ⟨hcz6_0, hcz6_1, hcz6_2, hcz6_3, hfz6_0, hfz6_1, hfz6_2, hfz6_3⟩ := Go.Proofs.YtodbnnfiadcbaaaH.cells4 BK181.out))
      refine bodyPost_ret (results_cell_row rfl _ _ gb181 28 #[.int .i64 ((rd_T28 l1 0).f0), .int .i64 ((rd_T28 l1 0).f1), .int .i64 ((rd_T28 l1 0).f2), .slice A182_3 ((rd_T28 l1 0).f3).length c182_3] (0, 0) _ rfl (by refine blk_put (cs := #[.int .i64 ((rd_T28 l1 0).f0), .int .i64 ((rd_T28 l1 0).f1), .int .i64 ((rd_T28 l1 0).f2), .slice none 0 0]) ?_ 3 _ rfl; refine blk_put (cs := #[.int .i64 ((rd_T28 l1 0).f0), .int .i64 ((rd_T28 l1 0).f1), .int .i64 0, .slice none 0 0]) ?_ 2 _ rfl; refine blk_put (cs := #[.int .i64 ((rd_T28 l1 0).f0), .int .i64 0, .int .i64 0, .slice none 0 0]) ?_ 1 _ rfl; refine blk_put (cs := #[.int .i64 0, .int .i64 0, .int .i64 0, .slice none 0 0]) ?_ 0 _ rfl; exact BK181.out) Try.underlying28 rfl (by kernel_rfl)) rfl ?_
      exact ⟨_, by rfl, by exact Kd.V_mono (Kd.V_far (p := ⟨gb181, 3, none⟩) (Kd.V_far (p := ⟨gb181, 2, none⟩) (Kd.V_far (p := ⟨gb181, 1, none⟩) (Kd.V_far (p := ⟨gb181, 0, none⟩) (Kd.V_mono HL182_3.out (fun k_ hk => (⟨hk, hk.2⟩ : _ ∧ k_ ≠ gb181))) (fun _ hk => hk.2) (.int .i64 ((rd_T28 l1 0).f0))) (fun _ hk => hk.2) (.int .i64 ((rd_T28 l1 0).f1))) (fun _ hk => hk.2) (.int .i64 ((rd_T28 l1 0).f2))) (fun _ hk => hk.2) (.slice A182_3 ((rd_T28 l1 0).f3).length c182_3)) (fun _ hk => hk.1.1), by repeat ((with_reducible first | exact HB.out | refine below_set ?_ GE181.out))⟩
    · rw [if_neg c4] at H
      exact absurd H (by simp)
  · rw [if_neg c3] at H
    have c3b0 : ((l1.length : Int) == 1) = false := beq_eq_false_iff_ne.mpr c3
    have c3b1 : ((l1.length : Int) != 1) = true := bne_iff_ne.mpr c3
    obtain ⟨y183, hy183⟩ : ∃ y_ : List (S28), y_ = (l1.take ((l1.length : Int) : Int).toNat) := ⟨_, rfl⟩
    replace H : (some (a0, 0, 0, y183)) = some (r1, r2, r3, r4) := by (rw [hy183]; with_reducible exact H)
    have Ny183 := Aside0.mk hy183
    clear hy183
    simp only [Option.some.injEq, Prod.mk.injEq] at H
    obtain ⟨rfl, rfl, rfl, rfl⟩ := H
    go_enter Try.func63, Try.ntmps63
    go_wp2_with (((with_reducible refine gate_dst (N := 4) rfl ?_); refine box_event ?hg (N := 4) ?hd (cs := #[.int .i64 0, .int .i64 0, .int .i64 0, .slice none 0 0]) (t := 28) ?hr ?_; (case hd => rfl); (case hg => rfl); (case hr => (go_simp; done)); intro gb181 hg w7 hbox hb; have n0_ := Aside0.mk (Kd.V_below (Kd.V_elderB HO1.out gb181 (Nat.le_of_eq hg.symm)) hb); have n1_ := Aside0.mk (below_step HB.out hb); have n2_ := Aside0.mk (hbox); have n3_ := Aside0.mk ((by rw [hg]; exact (below_size HB.out) : w.heap.size ≤ gb181)); have n4_ := Aside0.mk ((by rw [hg]; exact (below_size HB.out) : w.heap.size ≤ gb181)); clear HO1 HB; have HO1 := n0_; have HB := n1_; have BK181 := n2_; have GW181 := n3_; have GE181 := n4_; clear n0_ n1_ n2_ n3_ n4_ hb hbox hg; have q8 : ((l1.length : Int) : Int) ≤ ((l1.length : Int) : Int) := Int.le_refl _; obtain ⟨i08, hi08, _, hsz8, _⟩ := info_parts info28; have hroom8 : l1.length ≤ c1 := (Kd.V_reads' HO1.out).2.1; have hC8 : Kd.F k28 _ _ A1 l1.length l1 := (Kd.V_at (base := w.heap.size) HO1.out).2.2; have hcut8 := Go.Proofs.YtodbnnfiadcbaaaH.cut_max (P := Try.prog) 26 28 .i64 Try.underlying26 hi08 A1 l1.length c1 (l1.length : Int) (Int.natCast_nonneg _) q8 hroom8; have hr8 := Kd.F_take (m := ((l1.length : Int) : Int).toNat) hC8 (by omega); have hy8 : y183.length = ((l1.length : Int) : Int).toNat := (by rw [Ny183.out, List.length_take]; omega); rw [← Ny183.out] at hr8; rw [← hy8] at hcut8; have HO186 := Aside0.mk (show Kd.V k28 28 _ w.heap.size _ (.slice A1 y183.length y183.length) y183 from Kd.V_mk (Nat.le_refl _) hr8); have HC186 := Aside0.mk (show y183.length ≤ c1 from by omega); clear hr8 hC8 hroom8 hi08 hsz8; have KY8 := Aside0.mk hy8; clear hy8; replace q8 := eq_true q8; obtain ⟨hcz9_0, hcz9_1, hcz9_2, hcz9_3, hfz9_0, hfz9_1, hfz9_2, hfz9_3⟩ := Go.Proofs.YtodbnnfiadcbaaaH.cells4 BK181.out))
    refine bodyPost_ret (results_cell_row rfl _ _ gb181 28 #[.int .i64 a0, .int .i64 0, .int .i64 0, .slice A1 y183.length y183.length] (0, 0) _ rfl (by refine blk_put (cs := #[.int .i64 a0, .int .i64 0, .int .i64 0, .slice none 0 0]) ?_ 3 _ rfl; refine blk_put (cs := #[.int .i64 a0, .int .i64 0, .int .i64 0, .slice none 0 0]) ?_ 2 _ rfl; refine blk_put (cs := #[.int .i64 a0, .int .i64 0, .int .i64 0, .slice none 0 0]) ?_ 1 _ rfl; refine blk_put (cs := #[.int .i64 0, .int .i64 0, .int .i64 0, .slice none 0 0]) ?_ 0 _ rfl; exact BK181.out) Try.underlying28 rfl (by kernel_rfl)) rfl ?_
    exact ⟨_, by rfl, by exact Kd.V_mono (Kd.V_far (p := ⟨gb181, 3, none⟩) (Kd.V_far (p := ⟨gb181, 2, none⟩) (Kd.V_far (p := ⟨gb181, 1, none⟩) (Kd.V_far (p := ⟨gb181, 0, none⟩) (Kd.V_mono HO186.out (fun k_ hk => (⟨hk, hk.2⟩ : _ ∧ k_ ≠ gb181))) (fun _ hk => hk.2) (.int .i64 a0)) (fun _ hk => hk.2) (.int .i64 0)) (fun _ hk => hk.2) (.int .i64 0)) (fun _ hk => hk.2) (.slice A1 y183.length y183.length)) (fun _ hk => hk.1.1), by repeat ((with_reducible first | exact HB.out | refine below_set ?_ GE181.out))⟩

/-! ### expr_parser_is: function 62 -/
def expr_parser_is.f (s0_0 : List (S56)) (s0_1 : ByteArray) (s0_2 : Int) (s0_3 : Int) (s0_4 : Int) (s0_5 : ByteArray) (s0_6 : Int) (s0_7 : Int) (s0_8 : Int) (s0_9 : Int) (s0_10 : Int) (a1 : Int) : Option (Bool × ByteArray × Int × Int × Int × ByteArray × Int × Int × Int × Int × Int) := some ((s0_4 == 3 && ((s0_5.toList == ([] : List UInt8) && (s0_6 == 0)) && (s0_7 == a1))), s0_1, s0_2, s0_3, s0_4, s0_5, s0_6, s0_7, s0_8, s0_9, s0_10)
set_option maxHeartbeats 8000000 in
set_option maxRecDepth 100000 in
theorem expr_parser_is.calls (g : Nat) (s0_0 : List (S56)) (s0_1 : ByteArray) (s0_2 : Int) (s0_3 : Int) (s0_4 : Int) (s0_5 : ByteArray) (s0_6 : Int) (s0_7 : Int) (s0_8 : Int) (s0_9 : Int) (s0_10 : Int) (a1 : Int) (r1 : Bool) (r2 : ByteArray) (r3 : Int) (r4 : Int) (r5 : Int) (r6 : ByteArray) (r7 : Int) (r8 : Int) (r9 : Int) (r10 : Int) (r11 : Int) (w0 w : World) (hI : IsS75 w0 w g s0_0 s0_1 s0_2 s0_3 s0_4 s0_5 s0_6 s0_7 s0_8 s0_9 s0_10) (hB : Below w0.heap.size w0 w) (h : expr_parser_is.f s0_0 s0_1 s0_2 s0_3 s0_4 s0_5 s0_6 s0_7 s0_8 s0_9 s0_10 a1 = some (r1, r2, r3, r4, r5, r6, r7, r8, r9, r10, r11)) :
    Calls Try.prog 62 #[.pointer (some ⟨g, 0, none⟩), .int .u8 a1] w fun e w' => e = .returned (.bool r1) ∧ IsS75 w0 w' g s0_0 r2 r3 r4 r5 r6 r7 r8 r9 r10 r11 ∧ Below w0.heap.size w0 w' ∧ KeepBut w w' g none := by
  have hu73 := Try.underlying73
  have HI0 := Aside0.mk hI
  have HK := Aside0.mk (KeepBut.refl w g none)
  have HL := Aside0.mk hB.size
  clear hI
  have HW0 := Aside0.mk hB.size
  have HB := Aside0.mk hB
  clear hB
  have H : (some ((s0_4 == 3 && ((s0_5.toList == ([] : List UInt8) && (s0_6 == 0)) && (s0_7 == a1))), s0_1, s0_2, s0_3, s0_4, s0_5, s0_6, s0_7, s0_8, s0_9, s0_10)) = some (r1, r2, r3, r4, r5, r6, r7, r8, r9, r10, r11) := h
  clear h
  simp only [Option.some.injEq, Prod.mk.injEq] at H
  obtain ⟨rfl, rfl, rfl, rfl, rfl, rfl, rfl, rfl, rfl, rfl, rfl⟩ := H
  obtain ⟨ASz3_0, cSz3_0, HGz3, hgz3, HSz3_0, HDz3_0⟩ := HI0.out
  obtain ⟨hcz3_0, hcz3_1, hcz3_2, hcz3_3, hcz3_4, hcz3_5, hcz3_6, hcz3_7, hcz3_8, hcz3_9, hcz3_10, -, hfz3_1, hfz3_2, hfz3_3, hfz3_4, hfz3_5, hfz3_6, hfz3_7, hfz3_8, hfz3_9, hfz3_10⟩ := Go.Proofs.YtodbnnfiadcbaaaH.cells11 HGz3
  clear HGz3 hgz3
  go_enter Try.func62, Try.ntmps62
  go_wp2
  go_ret
  exact ⟨by (simp [errW_none, errW_some] <;> rfl), by with_reducible exact HI0.out, by with_reducible exact HB.out, by with_reducible exact HK.out⟩

end Go.Proofs.Ytodbnnfiadcbaaa.P
namespace Go.Proofs.Ytodbnnfiadcbaaa.P
open Go.RowKit Go.Proofs.YtodbnnfiadcbaaaW.PrintWords Go.Proofs.YtodbnnfiadcbaaaW.PrintLast Go.Proofs.YtodbnnfiadcbaaaW.PrintMore
attribute [local go_sem] max2_int min2_int max_two min_two max_three min_three max_four min_four   -- for this text's walks alone
set_option linter.unusedVariables false
set_option linter.unusedSimpArgs false

/-! ### expr_parser_wrong: function 42 -/
def expr_parser_wrong.f (s0_0 : List (S56)) (s0_1 : ByteArray) (s0_2 : Int) (s0_3 : Int) (s0_4 : Int) (s0_5 : ByteArray) (s0_6 : Int) (s0_7 : Int) (s0_8 : Int) (s0_9 : Int) (s0_10 : Int) (a1 : Int) : Option (ByteArray × Int × Int × Int × ByteArray × Int × Int × Int × Int × Int) := if s0_9 = 0 then (some (s0_1, s0_2, s0_3, s0_4, s0_5, s0_6, s0_7, s0_8, a1, s0_2)) else (some (s0_1, s0_2, s0_3, s0_4, s0_5, s0_6, s0_7, s0_8, s0_9, s0_10))
set_option maxHeartbeats 8000000 in
set_option maxRecDepth 100000 in
theorem expr_parser_wrong.calls (g : Nat) (s0_0 : List (S56)) (s0_1 : ByteArray) (s0_2 : Int) (s0_3 : Int) (s0_4 : Int) (s0_5 : ByteArray) (s0_6 : Int) (s0_7 : Int) (s0_8 : Int) (s0_9 : Int) (s0_10 : Int) (a1 : Int) (r1 : ByteArray) (r2 : Int) (r3 : Int) (r4 : Int) (r5 : ByteArray) (r6 : Int) (r7 : Int) (r8 : Int) (r9 : Int) (r10 : Int) (w0 w : World) (hI : IsS75 w0 w g s0_0 s0_1 s0_2 s0_3 s0_4 s0_5 s0_6 s0_7 s0_8 s0_9 s0_10) (hB : Below w0.heap.size w0 w) (h : expr_parser_wrong.f s0_0 s0_1 s0_2 s0_3 s0_4 s0_5 s0_6 s0_7 s0_8 s0_9 s0_10 a1 = some (r1, r2, r3, r4, r5, r6, r7, r8, r9, r10)) :
    Calls Try.prog 42 #[.pointer (some ⟨g, 0, none⟩), .int .i64 a1] w fun e w' => e = .returned (.tuple #[]) ∧ IsS75 w0 w' g s0_0 r1 r2 r3 r4 r5 r6 r7 r8 r9 r10 ∧ Below w0.heap.size w0 w' ∧ KeepBut w w' g none := by
  have HI0 := Aside0.mk hI
  have HK := Aside0.mk (KeepBut.refl w g none)
  have HL := Aside0.mk hB.size
  clear hI
  have HW0 := Aside0.mk hB.size
  have HB := Aside0.mk hB
  clear hB
  have H : (if s0_9 = 0 then (some (s0_1, s0_2, s0_3, s0_4, s0_5, s0_6, s0_7, s0_8, a1, s0_2)) else (some (s0_1, s0_2, s0_3, s0_4, s0_5, s0_6, s0_7, s0_8, s0_9, s0_10))) = some (r1, r2, r3, r4, r5, r6, r7, r8, r9, r10) := h
  clear h
  by_cases c3 : s0_9 = 0
  · rw [if_pos c3] at H
    have c3b0 : (s0_9 == 0) = true := beq_iff_eq.mpr c3
    have c3b1 : (s0_9 != 0) = false := bne_eq_false_iff_eq.mpr c3
    clear c3
    simp only [Option.some.injEq, Prod.mk.injEq] at H
    obtain ⟨rfl, rfl, rfl, rfl, rfl, rfl, rfl, rfl, rfl, rfl⟩ := H
    obtain ⟨ASz4_0, cSz4_0, HGz4, hgz4, HSz4_0, HDz4_0⟩ := HI0.out
    obtain ⟨hcz4_0, hcz4_1, hcz4_2, hcz4_3, hcz4_4, hcz4_5, hcz4_6, hcz4_7, hcz4_8, hcz4_9, hcz4_10, -, hfz4_1, hfz4_2, hfz4_3, hfz4_4, hfz4_5, hfz4_6, hfz4_7, hfz4_8, hfz4_9, hfz4_10⟩ := Go.Proofs.YtodbnnfiadcbaaaH.cells11 HGz4
    clear HGz4 hgz4
    go_enter Try.func42, Try.ntmps42
    go_wp2
    go_end0
    exact ⟨by rfl, by repeat ((with_reducible first | exact HI0.out | apply IsS75.set_9 | apply IsS75.set_10)), by repeat ((with_reducible first | exact HB.out | refine below_set ?_ (IsS75.ge HI0.out))), by repeat ((with_reducible first | exact HK.out | apply KeepBut.set_))⟩
  · rw [if_neg c3] at H
    have c3b0 : (s0_9 == 0) = false := beq_eq_false_iff_ne.mpr c3
    have c3b1 : (s0_9 != 0) = true := bne_iff_ne.mpr c3
    simp only [Option.some.injEq, Prod.mk.injEq] at H
    obtain ⟨rfl, rfl, rfl, rfl, rfl, rfl, rfl, rfl, rfl, rfl⟩ := H
    obtain ⟨ASz5_0, cSz5_0, HGz5, hgz5, HSz5_0, HDz5_0⟩ := HI0.out
    obtain ⟨hcz5_0, hcz5_1, hcz5_2, hcz5_3, hcz5_4, hcz5_5, hcz5_6, hcz5_7, hcz5_8, hcz5_9, hcz5_10, -, hfz5_1, hfz5_2, hfz5_3, hfz5_4, hfz5_5, hfz5_6, hfz5_7, hfz5_8, hfz5_9, hfz5_10⟩ := Go.Proofs.YtodbnnfiadcbaaaH.cells11 HGz5
    clear HGz5 hgz5
    go_enter Try.func42, Try.ntmps42
    go_wp2
    go_end0
    exact ⟨by rfl, by with_reducible exact HI0.out, by with_reducible exact HB.out, by with_reducible exact HK.out⟩

end Go.Proofs.Ytodbnnfiadcbaaa.P
namespace Go.Proofs.Ytodbnnfiadcbaaa.P
open Go.RowKit Go.Proofs.YtodbnnfiadcbaaaW.PrintWords Go.Proofs.YtodbnnfiadcbaaaW.PrintLast Go.Proofs.YtodbnnfiadcbaaaW.PrintMore
attribute [local go_sem] max2_int min2_int max_two min_two max_three min_three max_four min_four   -- for this text's walks alone
set_option linter.unusedVariables false
set_option linter.unusedSimpArgs false

attribute [local go_sem high] eqA56
/-! ### expr_parser_sym: function 93 -/
def expr_parser_sym.l0 : Nat → List (S56) → Int → Int → List (S56) → ByteArray → Int → Int → Int → ByteArray → Int → Int → Int → Int → Int → Option (Int × ByteArray × Int × Int × Int × ByteArray × Int × Int × Int × Int × Int)
  | 0, _, _, _, _, _, _, _, _, _, _, _, _, _, _ => none
  | k + 1, x8, x9, x10, x1000, x1001, x1002, x1003, x1004, x1005, x1006, x1007, x1008, x1009, x1010 => if x10 < x9 then (if 0 ≤ x10 then (if x10 < (x8.length : Int) then (if ((((rd_T56 x8 x10).f0).toList) == x1005.toList && (((rd_T56 x8 x10).f1) == x1006)) = true then (some (x10, x1001, x1002, x1003, x1004, x1005, x1006, x1007, x1008, x1009, x1010)) else (expr_parser_sym.l0 k x8 x9 (wrap64 (x10 + 1)) x1000 x1001 x1002 x1003 x1004 x1005 x1006 x1007 x1008 x1009 x1010)) else (none)) else (none)) else ((expr_parser_wrong.f x1000 x1001 x1002 x1003 x1004 x1005 x1006 x1007 x1008 x1009 x1010 6).bind fun bt189 => (some (0, bt189.1, bt189.2.1, bt189.2.2.1, bt189.2.2.2.1, bt189.2.2.2.2.1, bt189.2.2.2.2.2.1, bt189.2.2.2.2.2.2.1, bt189.2.2.2.2.2.2.2.1, bt189.2.2.2.2.2.2.2.2.1, bt189.2.2.2.2.2.2.2.2.2)))
def expr_parser_sym.f (k : Nat) (s0_0 : List (S56)) (s0_1 : ByteArray) (s0_2 : Int) (s0_3 : Int) (s0_4 : Int) (s0_5 : ByteArray) (s0_6 : Int) (s0_7 : Int) (s0_8 : Int) (s0_9 : Int) (s0_10 : Int) : Option (Int × ByteArray × Int × Int × Int × ByteArray × Int × Int × Int × Int × Int) := expr_parser_sym.l0 k s0_0 (s0_0.length : Int) 0 s0_0 s0_1 s0_2 s0_3 s0_4 s0_5 s0_6 s0_7 s0_8 s0_9 s0_10
theorem expr_parser_sym.mono_l : ∀ k, (∀ y0 y1 y2 y3 y4 y5 y6 y7 y8 y9 y10 y11 y12 y13, LeO (expr_parser_sym.l0 k y0 y1 y2 y3 y4 y5 y6 y7 y8 y9 y10 y11 y12 y13) (expr_parser_sym.l0 (k + 1) y0 y1 y2 y3 y4 y5 y6 y7 y8 y9 y10 y11 y12 y13))
  | 0 => fun _ _ _ _ _ _ _ _ _ _ _ _ _ _ r h => by simp [expr_parser_sym.l0] at h
  | k + 1 => by
    have ih0 := expr_parser_sym.mono_l k
    · intro y0 y1 y2 y3 y4 y5 y6 y7 y8 y9 y10 y11 y12 y13
      unfold expr_parser_sym.l0
      repeat' first
      | (with_reducible exact ih0 _ _ _ _ _ _ _ _ _ _ _ _ _ _)
      | (with_reducible exact LeO.refl _)
      | (with_reducible refine LeO.ite ?_ ?_)
theorem expr_parser_sym.mono : ∀ a0 a1 a2 a3 a4 a5 a6 a7 a8 a9 a10 k, LeO (expr_parser_sym.f k a0 a1 a2 a3 a4 a5 a6 a7 a8 a9 a10) (expr_parser_sym.f (k + 1) a0 a1 a2 a3 a4 a5 a6 a7 a8 a9 a10) := by
  intro a0 a1 a2 a3 a4 a5 a6 a7 a8 a9 a10 k
  have ih0 := expr_parser_sym.mono_l k
  unfold expr_parser_sym.f
  repeat' first
      | (with_reducible exact ih0 _ _ _ _ _ _ _ _ _ _ _ _ _ _)
set_option maxHeartbeats 8000000 in
set_option maxRecDepth 100000 in
theorem expr_parser_sym.calls (k : Nat) (g : Nat) (s0_0 : List (S56)) (s0_1 : ByteArray) (s0_2 : Int) (s0_3 : Int) (s0_4 : Int) (s0_5 : ByteArray) (s0_6 : Int) (s0_7 : Int) (s0_8 : Int) (s0_9 : Int) (s0_10 : Int) (r1 : Int) (r2 : ByteArray) (r3 : Int) (r4 : Int) (r5 : Int) (r6 : ByteArray) (r7 : Int) (r8 : Int) (r9 : Int) (r10 : Int) (r11 : Int) (w0 w : World) (hI : IsS75 w0 w g s0_0 s0_1 s0_2 s0_3 s0_4 s0_5 s0_6 s0_7 s0_8 s0_9 s0_10) (hB : Below w0.heap.size w0 w) (h : expr_parser_sym.f k s0_0 s0_1 s0_2 s0_3 s0_4 s0_5 s0_6 s0_7 s0_8 s0_9 s0_10 = some (r1, r2, r3, r4, r5, r6, r7, r8, r9, r10, r11)) :
    Calls Try.prog 93 #[.pointer (some ⟨g, 0, none⟩)] w fun e w' => e = .returned (.int .i64 r1) ∧ IsS75 w0 w' g s0_0 r2 r3 r4 r5 r6 r7 r8 r9 r10 r11 ∧ Below w0.heap.size w0 w' ∧ KeepBut w w' g none := by
  have hu56 := Try.underlying56
  have HI0 := Aside0.mk hI
  have HK := Aside0.mk (KeepBut.refl w g none)
  have HL := Aside0.mk hB.size
  clear hI
  have HW0 := Aside0.mk hB.size
  have HB := Aside0.mk hB
  clear hB
  have H : (expr_parser_sym.l0 k s0_0 (s0_0.length : Int) 0 s0_0 s0_1 s0_2 s0_3 s0_4 s0_5 s0_6 s0_7 s0_8 s0_9 s0_10) = some (r1, r2, r3, r4, r5, r6, r7, r8, r9, r10, r11) := h
  clear h
  have H' := Aside0.mk H
  clear H
  obtain ⟨ASz2_0, cSz2_0, HGz2, hgz2, HSz2_0, HDz2_0⟩ := HI0.out
  obtain ⟨hcz2_0, hcz2_1, hcz2_2, hcz2_3, hcz2_4, hcz2_5, hcz2_6, hcz2_7, hcz2_8, hcz2_9, hcz2_10, -, hfz2_1, hfz2_2, hfz2_3, hfz2_4, hfz2_5, hfz2_6, hfz2_7, hfz2_8, hfz2_9, hfz2_10⟩ := Go.Proofs.YtodbnnfiadcbaaaH.cells11 HGz2
  have HGW := Aside0.mk HGz2
  have hGG := Aside0.mk hgz2
  have HSS := Aside0.mk HSz2_0
  have HDD := Aside0.mk HDz2_0
  clear HGz2 hgz2 HSz2_0 HDz2_0
  go_enter Try.func93, Try.ntmps93
  go_wp2
  repeat (go_quiet (fail); try go_wp2)
  go_loopg [10] k (fun kq v10 w' => ∃ (x10_1 : Int), v10 = .int .i64 x10_1 ∧ Aside0 (expr_parser_sym.l0 kq s0_0 (s0_0.length : Int) x10_1 s0_0 s0_1 s0_2 s0_3 s0_4 s0_5 s0_6 s0_7 s0_8 s0_9 s0_10 = some (r1, r2, r3, r4, r5, r6, r7, r8, r9, r10, r11)) ∧ Aside0 (kq ≤ k) ∧ Aside0 (w'.heap[g]? = some (.cells #[.slice ASz2_0 s0_0.length cSz2_0, .string s0_1, .int .i64 s0_2, .int .i64 s0_3, .int .i64 s0_4, .string s0_5, .int .i64 s0_6, .int .u8 s0_7, .int .i64 s0_8, .int .i64 s0_9, .int .i64 s0_10] 75 (0, 0))) ∧ Aside0 (KeepBut w w' g none) ∧ Aside0 (Below w0.heap.size w0 w'))
  case atStart => exact ⟨(0), (by rfl), H', ⟨Nat.le_refl _⟩, ⟨by exact HGW.out⟩, ⟨by with_reducible exact HK.out⟩, ⟨by with_reducible exact HB.out⟩⟩
  case round =>
    clear H'
    clear hcz2_0 hcz2_1 hcz2_10 hcz2_2 hcz2_3 hcz2_4 hcz2_5 hcz2_6 hcz2_7 hcz2_8 hcz2_9 hfz2_1 hfz2_10 hfz2_2 hfz2_3 hfz2_4 hfz2_5 hfz2_6 hfz2_7 hfz2_8 hfz2_9 HGW
    obtain ⟨x10_1, rfl, HA, HK1, HGW, HK, HB⟩ := hrel
    have HI0 : Aside0 (IsS75 w0 wr g s0_0 s0_1 s0_2 s0_3 s0_4 s0_5 s0_6 s0_7 s0_8 s0_9 s0_10) := ⟨⟨_, _, HGW.out, hGG.out, HSS.out, HDD.out⟩⟩
    cases gk with
    | zero => exact absurd HA.out (by simp [expr_parser_sym.l0])
    | succ k1 =>
      have H := HA.out
      clear HA
      simp only [expr_parser_sym.l0] at H
      by_cases c3 : x10_1 < (s0_0.length : Int)
      · rw [if_pos c3] at H
        have c3b0 : decide (x10_1 < (s0_0.length : Int)) = true := decide_eq_true c3
        clear c3
        by_cases c4 : 0 ≤ x10_1
        · rw [if_pos c4] at H
          have c4b0 : decide (0 ≤ x10_1) = true := decide_eq_true c4
          clear c4
          by_cases c5 : x10_1 < (s0_0.length : Int)
          · rw [if_pos c5] at H
            have c5b0 : decide (x10_1 < (s0_0.length : Int)) = true := decide_eq_true c5
            clear c5
            by_cases c6 : ((((rd_T56 s0_0 x10_1).f0).toList) == s0_5.toList && (((rd_T56 s0_0 x10_1).f1) == s0_6)) = true
            · rw [if_pos c6] at H
              have c6b0 : ((((rd_T56 s0_0 x10_1).f0).toList) == s0_5.toList && (((rd_T56 s0_0 x10_1).f1) == s0_6)) = true := c6
              ((have c6b1 : decide ((((rd_T56 s0_0 x10_1).f0).toList) = s0_5.toList && (((rd_T56 s0_0 x10_1).f1) == s0_6)) = true := by simpa using c6))
              ((have c6b2 : ((((rd_T56 s0_0 x10_1).f0).toList) == s0_5.toList && (((rd_T56 s0_0 x10_1).f1) == s0_6)) = true := by simpa using c6))
              clear c6
              simp only [Option.some.injEq, Prod.mk.injEq] at H
              obtain ⟨rfl, rfl, rfl, rfl, rfl, rfl, rfl, rfl, rfl, rfl, rfl⟩ := H
              have HGz7 := HGW.out; have hgz7 := hGG.out; have HSz7_0 := HSS.out; have HDz7_0 := HDD.out
              obtain ⟨hcz7_0, hcz7_1, hcz7_2, hcz7_3, hcz7_4, hcz7_5, hcz7_6, hcz7_7, hcz7_8, hcz7_9, hcz7_10, -, hfz7_1, hfz7_2, hfz7_3, hfz7_4, hfz7_5, hfz7_6, hfz7_7, hfz7_8, hfz7_9, hfz7_10⟩ := Go.Proofs.YtodbnnfiadcbaaaH.cells11 HGz7
              clear HGz7 hgz7
              have p187 : 0 ≤ (x10_1 : Int) := of_decide_eq_true (by (with_reducible assumption))
              have q187 : x10_1 < (s0_0.length : Int) := of_decide_eq_true (by (with_reducible assumption))
              obtain ⟨ad187, e187, hx187_0, hx187_1⟩ := at_T56 HSz7_0 x10_1 p187 q187
              cases e187
              replace hx187_0 := pw_cell_below HB.out hx187_0
              replace hx187_1 := pw_cell_below HB.out hx187_1
              replace p187 := eq_true p187
              replace q187 := eq_true q187
              go_wp2_with (((with_reducible refine gate_dst (N := 4) rfl ?_); refine box_event ?hg (N := 4) ?hd (cs := #[.string (⟨#[]⟩ : ByteArray), .int .i64 0]) (t := 56) ?hr ?_; (case hd => rfl); (case hg => rfl); (case hr => (go_simp; done)); intro gb188 hg w8 hbox hb; have nG_ := Aside0.mk (blk_below HGW.out hb); clear HGW; have HGW := nG_; clear nG_; have n0_ := Aside0.mk (IsS75.below HI0.out hb); have n1_ := Aside0.mk (KeepBut.trans HK.out (KeepBut.of_below hb g none) (.inl rfl)); have n2_ := Aside0.mk (below_step HB.out hb); have n3_ := Aside0.mk (hbox); have n4_ := Aside0.mk ((by rw [hg]; exact (keep_size HK.out) : w.heap.size ≤ gb188)); have n5_ := Aside0.mk ((Nat.le_trans HW0.out (by rw [hg]; exact (keep_size HK.out) : w.heap.size ≤ gb188) : w0.heap.size ≤ gb188)); have n6_ := Aside0.mk ((by rw [hg]; exact Nat.ne_of_lt (IsS75.lt HI0.out) : g ≠ gb188)); have n7_ := Aside0.mk ((by rw [hg]; exact Nat.ne_of_gt (IsS75.lt HI0.out) : gb188 ≠ g)); clear HI0 HK HB; have HI0 := n0_; have HK := n1_; have HB := n2_; have BK188 := n3_; have GW188 := n4_; have GE188 := n5_; have NB0_188 := n6_; have NB188_0 := n7_; clear n0_ n1_ n2_ n3_ n4_ n5_ n6_ n7_ hb hbox hg; have hnb9 := NB188_0.out; have hnc9 := NB0_188.out; obtain ⟨hcz10_0, hcz10_1, hfz10_0, hfz10_1⟩ := Go.Proofs.YtodbnnfiadcbaaaH.cells2 BK188.out; have HGz11 := HGW.out; have hgz11 := hGG.out; have HSz11_0 := HSS.out; have HDz11_0 := HDD.out; obtain ⟨hcz11_0, hcz11_1, hcz11_2, hcz11_3, hcz11_4, hcz11_5, hcz11_6, hcz11_7, hcz11_8, hcz11_9, hcz11_10, -, hfz11_1, hfz11_2, hfz11_3, hfz11_4, hfz11_5, hfz11_6, hfz11_7, hfz11_8, hfz11_9, hfz11_10⟩ := Go.Proofs.YtodbnnfiadcbaaaH.cells11 HGz11; clear HGz11 hgz11))
              repeat (go_quiet (fail); try go_wp2_with (fail))
              go_ret
              exact ⟨by rfl, by repeat ((with_reducible first | exact HI0.out | apply IsS75.drewN | apply IsS75.far_ (hne := NB0_188.out))), by repeat ((with_reducible first | exact HB.out | apply pw_below_drewN | refine below_set ?_ GE188.out)), by repeat ((with_reducible first | exact HK.out | apply keep_drewN | refine keep_far ?_ GW188.out _))⟩
            · rw [if_neg c6] at H
              have c6b0 : ((((rd_T56 s0_0 x10_1).f0).toList) == s0_5.toList && (((rd_T56 s0_0 x10_1).f1) == s0_6)) = false := by simpa using c6
              ((have c6b1 : decide ((((rd_T56 s0_0 x10_1).f0).toList) = s0_5.toList && (((rd_T56 s0_0 x10_1).f1) == s0_6)) = false := by simpa using c6))
              ((have c6b2 : ((((rd_T56 s0_0 x10_1).f0).toList) == s0_5.toList && (((rd_T56 s0_0 x10_1).f1) == s0_6)) = false := by simpa using c6))
              ((have c6b3 : ¬ ((((rd_T56 s0_0 x10_1).f0).toList) = s0_5.toList && (((rd_T56 s0_0 x10_1).f1) == s0_6)) := by simpa using c6))
              clear c6
              have H' := Aside0.mk H
              clear H
              have HGz12 := HGW.out; have hgz12 := hGG.out; have HSz12_0 := HSS.out; have HDz12_0 := HDD.out
              obtain ⟨hcz12_0, hcz12_1, hcz12_2, hcz12_3, hcz12_4, hcz12_5, hcz12_6, hcz12_7, hcz12_8, hcz12_9, hcz12_10, -, hfz12_1, hfz12_2, hfz12_3, hfz12_4, hfz12_5, hfz12_6, hfz12_7, hfz12_8, hfz12_9, hfz12_10⟩ := Go.Proofs.YtodbnnfiadcbaaaH.cells11 HGz12
              clear HGz12 hgz12
              have p187 : 0 ≤ (x10_1 : Int) := of_decide_eq_true (by (with_reducible assumption))
              have q187 : x10_1 < (s0_0.length : Int) := of_decide_eq_true (by (with_reducible assumption))
              obtain ⟨ad187, e187, hx187_0, hx187_1⟩ := at_T56 HSz12_0 x10_1 p187 q187
              cases e187
              replace hx187_0 := pw_cell_below HB.out hx187_0
              replace hx187_1 := pw_cell_below HB.out hx187_1
              replace p187 := eq_true p187
              replace q187 := eq_true q187
              go_wp2_with (((with_reducible refine gate_dst (N := 4) rfl ?_); refine box_event ?hg (N := 4) ?hd (cs := #[.string (⟨#[]⟩ : ByteArray), .int .i64 0]) (t := 56) ?hr ?_; (case hd => rfl); (case hg => rfl); (case hr => (go_simp; done)); intro gb188 hg w13 hbox hb; have nG_ := Aside0.mk (blk_below HGW.out hb); clear HGW; have HGW := nG_; clear nG_; have n0_ := Aside0.mk (IsS75.below HI0.out hb); have n1_ := Aside0.mk (KeepBut.trans HK.out (KeepBut.of_below hb g none) (.inl rfl)); have n2_ := Aside0.mk (below_step HB.out hb); have n3_ := Aside0.mk (hbox); have n4_ := Aside0.mk ((by rw [hg]; exact (keep_size HK.out) : w.heap.size ≤ gb188)); have n5_ := Aside0.mk ((Nat.le_trans HW0.out (by rw [hg]; exact (keep_size HK.out) : w.heap.size ≤ gb188) : w0.heap.size ≤ gb188)); have n6_ := Aside0.mk ((by rw [hg]; exact Nat.ne_of_lt (IsS75.lt HI0.out) : g ≠ gb188)); have n7_ := Aside0.mk ((by rw [hg]; exact Nat.ne_of_gt (IsS75.lt HI0.out) : gb188 ≠ g)); clear HI0 HK HB; have HI0 := n0_; have HK := n1_; have HB := n2_; have BK188 := n3_; have GW188 := n4_; have GE188 := n5_; have NB0_188 := n6_; have NB188_0 := n7_; clear n0_ n1_ n2_ n3_ n4_ n5_ n6_ n7_ hb hbox hg; have hnb14 := NB188_0.out; have hnc14 := NB0_188.out; obtain ⟨hcz15_0, hcz15_1, hfz15_0, hfz15_1⟩ := Go.Proofs.YtodbnnfiadcbaaaH.cells2 BK188.out; have HGz16 := HGW.out; have hgz16 := hGG.out; have HSz16_0 := HSS.out; have HDz16_0 := HDD.out; obtain ⟨hcz16_0, hcz16_1, hcz16_2, hcz16_3, hcz16_4, hcz16_5, hcz16_6, hcz16_7, hcz16_8, hcz16_9, hcz16_10, -, hfz16_1, hfz16_2, hfz16_3, hfz16_4, hfz16_5, hfz16_6, hfz16_7, hfz16_8, hfz16_9, hfz16_10⟩ := Go.Proofs.YtodbnnfiadcbaaaH.cells11 HGz16; clear HGz16 hgz16))
              repeat (go_quiet (fail); try go_wp2_with (fail))
              go_roundg k1
              case measure => have := HK1.out; omega
              case rel => exact ⟨(wrap64 (x10_1 + 1)), (by rfl), H', ⟨by have := HK1.out; omega⟩, ⟨by repeat (first | exact HGW.out | refine blk_drewN ?_ _ | refine blk_far ?_ NB0_188.out _)⟩, ⟨by repeat ((with_reducible first | exact HK.out | apply keep_drewN | refine keep_far ?_ GW188.out _))⟩, ⟨by repeat ((with_reducible first | exact HB.out | apply pw_below_drewN | refine below_set ?_ GE188.out))⟩⟩
          · rw [if_neg c5] at H
            exact absurd H (by simp)
        · rw [if_neg c4] at H
          exact absurd H (by simp)
      · rw [if_neg c3] at H
        have c3b0 : decide (x10_1 < (s0_0.length : Int)) = false := decide_eq_false c3
        clear c3
        replace H := Option.bind_eq_some_iff.mp H
        obtain ⟨⟨t189, t190, t191, t192, t193, t194, t195, t196, t197, t198⟩, A170, H⟩ := H
        try dsimp only at H
        have A17 := Aside0.mk A170
        clear A170
        simp only [Option.some.injEq, Prod.mk.injEq] at H
        obtain ⟨rfl, rfl, rfl, rfl, rfl, rfl, rfl, rfl, rfl, rfl, rfl⟩ := H
        go_wp2_with ((go_at_call 42; (with_reducible refine (expr_parser_wrong.calls g s0_0 s0_1 s0_2 s0_3 s0_4 s0_5 s0_6 s0_7 s0_8 s0_9 s0_10 6 t189 t190 t191 t192 t193 t194 t195 t196 t197 t198 w0 _ HI0.out HB.out A17.out).mono ?_); rintro e w18 ⟨rfl, hi, hb, hk⟩; have n0_ := Aside0.mk (KeepBut.trans HK.out hk (.inl rfl)); have n1_ := Aside0.mk (hb); have n2_ := Aside0.mk (hi); clear HK HB HI0; have HK := n0_; have HB := n1_; have HI0 := n2_; clear n0_ n1_ n2_ hb hk hi))
        repeat (go_quiet (fail); try go_wp2_with (fail))
        go_ret
        exact ⟨by rfl, by with_reducible exact HI0.out, by with_reducible exact HB.out, by with_reducible exact HK.out⟩

end Go.Proofs.Ytodbnnfiadcbaaa.P
namespace Go.Proofs.Ytodbnnfiadcbaaa.P
open Go.RowKit Go.Proofs.YtodbnnfiadcbaaaW.PrintWords Go.Proofs.YtodbnnfiadcbaaaW.PrintLast Go.Proofs.YtodbnnfiadcbaaaW.PrintMore
attribute [local go_sem] max2_int min2_int max_two min_two max_three min_three max_four min_four   -- for this text's walks alone
set_option linter.unusedVariables false
set_option linter.unusedSimpArgs false

/-! ### expr_parser_begins: function 81 -/
def expr_parser_begins.f (s0_0 : List (S56)) (s0_1 : ByteArray) (s0_2 : Int) (s0_3 : Int) (s0_4 : Int) (s0_5 : ByteArray) (s0_6 : Int) (s0_7 : Int) (s0_8 : Int) (s0_9 : Int) (s0_10 : Int) : Option (Bool × ByteArray × Int × Int × Int × ByteArray × Int × Int × Int × Int × Int) := (expr_parser_is.f s0_0 s0_1 s0_2 s0_3 s0_4 s0_5 s0_6 s0_7 s0_8 s0_9 s0_10 48).bind fun bt199 => (if bt199.1 = true then (some (true, bt199.2.1, bt199.2.2.1, bt199.2.2.2.1, bt199.2.2.2.2.1, bt199.2.2.2.2.2.1, bt199.2.2.2.2.2.2.1, bt199.2.2.2.2.2.2.2.1, bt199.2.2.2.2.2.2.2.2.1, bt199.2.2.2.2.2.2.2.2.2.1, bt199.2.2.2.2.2.2.2.2.2.2)) else ((expr_parser_is.f s0_0 bt199.2.1 bt199.2.2.1 bt199.2.2.2.1 bt199.2.2.2.2.1 bt199.2.2.2.2.2.1 bt199.2.2.2.2.2.2.1 bt199.2.2.2.2.2.2.2.1 bt199.2.2.2.2.2.2.2.2.1 bt199.2.2.2.2.2.2.2.2.2.1 bt199.2.2.2.2.2.2.2.2.2.2 49).bind fun bt210 => (if bt210.1 = true then (some (true, bt210.2.1, bt210.2.2.1, bt210.2.2.2.1, bt210.2.2.2.2.1, bt210.2.2.2.2.2.1, bt210.2.2.2.2.2.2.1, bt210.2.2.2.2.2.2.2.1, bt210.2.2.2.2.2.2.2.2.1, bt210.2.2.2.2.2.2.2.2.2.1, bt210.2.2.2.2.2.2.2.2.2.2)) else ((expr_parser_is.f s0_0 bt210.2.1 bt210.2.2.1 bt210.2.2.2.1 bt210.2.2.2.2.1 bt210.2.2.2.2.2.1 bt210.2.2.2.2.2.2.1 bt210.2.2.2.2.2.2.2.1 bt210.2.2.2.2.2.2.2.2.1 bt210.2.2.2.2.2.2.2.2.2.1 bt210.2.2.2.2.2.2.2.2.2.2 40).bind fun bt221 => (if bt221.1 = true then (some (true, bt221.2.1, bt221.2.2.1, bt221.2.2.2.1, bt221.2.2.2.2.1, bt221.2.2.2.2.2.1, bt221.2.2.2.2.2.2.1, bt221.2.2.2.2.2.2.2.1, bt221.2.2.2.2.2.2.2.2.1, bt221.2.2.2.2.2.2.2.2.2.1, bt221.2.2.2.2.2.2.2.2.2.2)) else (if bt221.2.2.2.2.1 = 4 then (some (true, bt221.2.1, bt221.2.2.1, bt221.2.2.2.1, bt221.2.2.2.2.1, bt221.2.2.2.2.2.1, bt221.2.2.2.2.2.2.1, bt221.2.2.2.2.2.2.2.1, bt221.2.2.2.2.2.2.2.2.1, bt221.2.2.2.2.2.2.2.2.2.1, bt221.2.2.2.2.2.2.2.2.2.2)) else (some ((bt221.2.2.2.2.1 == 5), bt221.2.1, bt221.2.2.1, bt221.2.2.2.1, bt221.2.2.2.2.1, bt221.2.2.2.2.2.1, bt221.2.2.2.2.2.2.1, bt221.2.2.2.2.2.2.2.1, bt221.2.2.2.2.2.2.2.2.1, bt221.2.2.2.2.2.2.2.2.2.1, bt221.2.2.2.2.2.2.2.2.2.2))))))))
set_option maxHeartbeats 8000000 in
set_option maxRecDepth 100000 in
theorem expr_parser_begins.calls (g : Nat) (s0_0 : List (S56)) (s0_1 : ByteArray) (s0_2 : Int) (s0_3 : Int) (s0_4 : Int) (s0_5 : ByteArray) (s0_6 : Int) (s0_7 : Int) (s0_8 : Int) (s0_9 : Int) (s0_10 : Int) (r1 : Bool) (r2 : ByteArray) (r3 : Int) (r4 : Int) (r5 : Int) (r6 : ByteArray) (r7 : Int) (r8 : Int) (r9 : Int) (r10 : Int) (r11 : Int) (w0 w : World) (hI : IsS75 w0 w g s0_0 s0_1 s0_2 s0_3 s0_4 s0_5 s0_6 s0_7 s0_8 s0_9 s0_10) (hB : Below w0.heap.size w0 w) (h : expr_parser_begins.f s0_0 s0_1 s0_2 s0_3 s0_4 s0_5 s0_6 s0_7 s0_8 s0_9 s0_10 = some (r1, r2, r3, r4, r5, r6, r7, r8, r9, r10, r11)) :
    Calls Try.prog 81 #[.pointer (some ⟨g, 0, none⟩)] w fun e w' => e = .returned (.bool r1) ∧ IsS75 w0 w' g s0_0 r2 r3 r4 r5 r6 r7 r8 r9 r10 r11 ∧ Below w0.heap.size w0 w' ∧ KeepBut w w' g none := by
  have HI0 := Aside0.mk hI
  have HK := Aside0.mk (KeepBut.refl w g none)
  have HL := Aside0.mk hB.size
  clear hI
  have HW0 := Aside0.mk hB.size
  have HB := Aside0.mk hB
  clear hB
  have H : ((expr_parser_is.f s0_0 s0_1 s0_2 s0_3 s0_4 s0_5 s0_6 s0_7 s0_8 s0_9 s0_10 48).bind fun bt199 => (if bt199.1 = true then (some (true, bt199.2.1, bt199.2.2.1, bt199.2.2.2.1, bt199.2.2.2.2.1, bt199.2.2.2.2.2.1, bt199.2.2.2.2.2.2.1, bt199.2.2.2.2.2.2.2.1, bt199.2.2.2.2.2.2.2.2.1, bt199.2.2.2.2.2.2.2.2.2.1, bt199.2.2.2.2.2.2.2.2.2.2)) else ((expr_parser_is.f s0_0 bt199.2.1 bt199.2.2.1 bt199.2.2.2.1 bt199.2.2.2.2.1 bt199.2.2.2.2.2.1 bt199.2.2.2.2.2.2.1 bt199.2.2.2.2.2.2.2.1 bt199.2.2.2.2.2.2.2.2.1 bt199.2.2.2.2.2.2.2.2.2.1 bt199.2.2.2.2.2.2.2.2.2.2 49).bind fun bt210 => (if bt210.1 = true then (some (true, bt210.2.1, bt210.2.2.1, bt210.2.2.2.1, bt210.2.2.2.2.1, bt210.2.2.2.2.2.1, bt210.2.2.2.2.2.2.1, bt210.2.2.2.2.2.2.2.1, bt210.2.2.2.2.2.2.2.2.1, bt210.2.2.2.2.2.2.2.2.2.1, bt210.2.2.2.2.2.2.2.2.2.2)) else ((expr_parser_is.f s0_0 bt210.2.1 bt210.2.2.1 bt210.2.2.2.1 bt210.2.2.2.2.1 bt210.2.2.2.2.2.1 bt210.2.2.2.2.2.2.1 bt210.2.2.2.2.2.2.2.1 bt210.2.2.2.2.2.2.2.2.1 bt210.2.2.2.2.2.2.2.2.2.1 bt210.2.2.2.2.2.2.2.2.2.2 40).bind fun bt221 => (if bt221.1 = true then (some (true, bt221.2.1, bt221.2.2.1, bt221.2.2.2.1, bt221.2.2.2.2.1, bt221.2.2.2.2.2.1, bt221.2.2.2.2.2.2.1, bt221.2.2.2.2.2.2.2.1, bt221.2.2.2.2.2.2.2.2.1, bt221.2.2.2.2.2.2.2.2.2.1, bt221.2.2.2.2.2.2.2.2.2.2)) else (if bt221.2.2.2.2.1 = 4 then (some (true, bt221.2.1, bt221.2.2.1, bt221.2.2.2.1, bt221.2.2.2.2.1, bt221.2.2.2.2.2.1, bt221.2.2.2.2.2.2.1, bt221.2.2.2.2.2.2.2.1, bt221.2.2.2.2.2.2.2.2.1, bt221.2.2.2.2.2.2.2.2.2.1, bt221.2.2.2.2.2.2.2.2.2.2)) else (some ((bt221.2.2.2.2.1 == 5), bt221.2.1, bt221.2.2.1, bt221.2.2.2.1, bt221.2.2.2.2.1, bt221.2.2.2.2.2.1, bt221.2.2.2.2.2.2.1, bt221.2.2.2.2.2.2.2.1, bt221.2.2.2.2.2.2.2.2.1, bt221.2.2.2.2.2.2.2.2.2.1, bt221.2.2.2.2.2.2.2.2.2.2))))))))) = some (r1, r2, r3, r4, r5, r6, r7, r8, r9, r10, r11) := h
  clear h
  replace H := Option.bind_eq_some_iff.mp H
  obtain ⟨⟨t199, t200, t201, t202, t203, t204, t205, t206, t207, t208, t209⟩, A20, H⟩ := H
  try dsimp only at H
  have A2 := Aside0.mk A20
  clear A20
  by_cases c3 : t199 = true
  · subst c3
    rw [if_pos rfl] at H
    simp only [Option.some.injEq, Prod.mk.injEq] at H
    obtain ⟨rfl, rfl, rfl, rfl, rfl, rfl, rfl, rfl, rfl, rfl, rfl⟩ := H
    go_enter Try.func81, Try.ntmps81
    go_wp2_with (((with_reducible refine gate_callee (f := 62) rfl ?_); refine goesL_ (some 4) rfl rfl Try.func62 (by kernel_rfl) rfl #[.pointer (some ⟨g, 0, none⟩), .int .u8 48] rfl (by (simp only [List.map_toArray, List.map_cons, List.map_nil]); rfl) ?_; (with_reducible refine (expr_parser_is.calls g s0_0 s0_1 s0_2 s0_3 s0_4 s0_5 s0_6 s0_7 s0_8 s0_9 s0_10 48 true t200 t201 t202 t203 t204 t205 t206 t207 t208 t209 w0 _ HI0.out HB.out A2.out).mono ?_); rintro e w4 ⟨rfl, hi, hb, hk⟩; refine ⟨_, rfl, ?_⟩; have n0_ := Aside0.mk (KeepBut.trans HK.out hk (.inl rfl)); have n1_ := Aside0.mk (hb); have n2_ := Aside0.mk (hi); clear HK HB HI0; have HK := n0_; have HB := n1_; have HI0 := n2_; clear n0_ n1_ n2_ hb hk hi))
    go_ret
    exact ⟨by rfl, by with_reducible exact HI0.out, by with_reducible exact HB.out, by with_reducible exact HK.out⟩
  · replace c3 := Bool.eq_false_iff.mpr c3
    subst c3
    rw [if_neg (show ¬ (false = true) by decide)] at H
    replace H := Option.bind_eq_some_iff.mp H
    obtain ⟨⟨t210, t211, t212, t213, t214, t215, t216, t217, t218, t219, t220⟩, A50, H⟩ := H
    try dsimp only at H
    have A5 := Aside0.mk A50
    clear A50
    by_cases c6 : t210 = true
    · subst c6
      rw [if_pos rfl] at H
      simp only [Option.some.injEq, Prod.mk.injEq] at H
      obtain ⟨rfl, rfl, rfl, rfl, rfl, rfl, rfl, rfl, rfl, rfl, rfl⟩ := H
      go_enter Try.func81, Try.ntmps81
      go_wp2_with (first | ((with_reducible refine gate_callee (f := 62) rfl ?_); refine goesL_ (some 4) rfl rfl Try.func62 (by kernel_rfl) rfl #[.pointer (some ⟨g, 0, none⟩), .int .u8 48] rfl (by (simp only [List.map_toArray, List.map_cons, List.map_nil]); rfl) ?_; (with_reducible refine (expr_parser_is.calls g s0_0 s0_1 s0_2 s0_3 s0_4 s0_5 s0_6 s0_7 s0_8 s0_9 s0_10 48 false t200 t201 t202 t203 t204 t205 t206 t207 t208 t209 w0 _ HI0.out HB.out A2.out).mono ?_); rintro e w7 ⟨rfl, hi, hb, hk⟩; refine ⟨_, rfl, ?_⟩; have n0_ := Aside0.mk (KeepBut.trans HK.out hk (.inl rfl)); have n1_ := Aside0.mk (hb); have n2_ := Aside0.mk (hi); clear HK HB HI0; have HK := n0_; have HB := n1_; have HI0 := n2_; clear n0_ n1_ n2_ hb hk hi) | (go_at_call 62; (with_reducible refine (expr_parser_is.calls g s0_0 t200 t201 t202 t203 t204 t205 t206 t207 t208 t209 49 true t211 t212 t213 t214 t215 t216 t217 t218 t219 t220 w0 _ HI0.out HB.out A5.out).mono ?_); rintro e w8 ⟨rfl, hi, hb, hk⟩; have n0_ := Aside0.mk (KeepBut.trans HK.out hk (.inl rfl)); have n1_ := Aside0.mk (hb); have n2_ := Aside0.mk (hi); clear HK HB HI0; have HK := n0_; have HB := n1_; have HI0 := n2_; clear n0_ n1_ n2_ hb hk hi))
      go_ret
      exact ⟨by rfl, by with_reducible exact HI0.out, by with_reducible exact HB.out, by with_reducible exact HK.out⟩
    · replace c6 := Bool.eq_false_iff.mpr c6
      subst c6
      rw [if_neg (show ¬ (false = true) by decide)] at H
      replace H := Option.bind_eq_some_iff.mp H
      obtain ⟨⟨t221, t222, t223, t224, t225, t226, t227, t228, t229, t230, t231⟩, A90, H⟩ := H
      try dsimp only at H
      have A9 := Aside0.mk A90
      clear A90
      by_cases c10 : t221 = true
      · subst c10
        rw [if_pos rfl] at H
        simp only [Option.some.injEq, Prod.mk.injEq] at H
        obtain ⟨rfl, rfl, rfl, rfl, rfl, rfl, rfl, rfl, rfl, rfl, rfl⟩ := H
        go_enter Try.func81, Try.ntmps81
        go_wp2_with (first | ((with_reducible refine gate_callee (f := 62) rfl ?_); refine goesL_ (some 4) rfl rfl Try.func62 (by kernel_rfl) rfl #[.pointer (some ⟨g, 0, none⟩), .int .u8 48] rfl (by (simp only [List.map_toArray, List.map_cons, List.map_nil]); rfl) ?_; (with_reducible refine (expr_parser_is.calls g s0_0 s0_1 s0_2 s0_3 s0_4 s0_5 s0_6 s0_7 s0_8 s0_9 s0_10 48 false t200 t201 t202 t203 t204 t205 t206 t207 t208 t209 w0 _ HI0.out HB.out A2.out).mono ?_); rintro e w11 ⟨rfl, hi, hb, hk⟩; refine ⟨_, rfl, ?_⟩; have n0_ := Aside0.mk (KeepBut.trans HK.out hk (.inl rfl)); have n1_ := Aside0.mk (hb); have n2_ := Aside0.mk (hi); clear HK HB HI0; have HK := n0_; have HB := n1_; have HI0 := n2_; clear n0_ n1_ n2_ hb hk hi) | (go_at_call 62; (with_reducible refine (expr_parser_is.calls g s0_0 t200 t201 t202 t203 t204 t205 t206 t207 t208 t209 49 false t211 t212 t213 t214 t215 t216 t217 t218 t219 t220 w0 _ HI0.out HB.out A5.out).mono ?_); rintro e w12 ⟨rfl, hi, hb, hk⟩; have n0_ := Aside0.mk (KeepBut.trans HK.out hk (.inl rfl)); have n1_ := Aside0.mk (hb); have n2_ := Aside0.mk (hi); clear HK HB HI0; have HK := n0_; have HB := n1_; have HI0 := n2_; clear n0_ n1_ n2_ hb hk hi) | (go_at_call 62; (with_reducible refine (expr_parser_is.calls g s0_0 t211 t212 t213 t214 t215 t216 t217 t218 t219 t220 40 true t222 t223 t224 t225 t226 t227 t228 t229 t230 t231 w0 _ HI0.out HB.out A9.out).mono ?_); rintro e w13 ⟨rfl, hi, hb, hk⟩; have n0_ := Aside0.mk (KeepBut.trans HK.out hk (.inl rfl)); have n1_ := Aside0.mk (hb); have n2_ := Aside0.mk (hi); clear HK HB HI0; have HK := n0_; have HB := n1_; have HI0 := n2_; clear n0_ n1_ n2_ hb hk hi))
        go_ret
        exact ⟨by rfl, by with_reducible exact HI0.out, by with_reducible exact HB.out, by with_reducible exact HK.out⟩
      · replace c10 := Bool.eq_false_iff.mpr c10
        subst c10
        rw [if_neg (show ¬ (false = true) by decide)] at H
        by_cases c14 : t225 = 4
        · rw [if_pos c14] at H
          have c14b0 : (t225 == 4) = true := beq_iff_eq.mpr c14
          have c14b1 : (t225 != 4) = false := bne_eq_false_iff_eq.mpr c14
          clear c14
          simp only [Option.some.injEq, Prod.mk.injEq] at H
          obtain ⟨rfl, rfl, rfl, rfl, rfl, rfl, rfl, rfl, rfl, rfl, rfl⟩ := H
          go_enter Try.func81, Try.ntmps81
          go_wp2_with (first | ((with_reducible refine gate_callee (f := 62) rfl ?_); refine goesL_ (some 4) rfl rfl Try.func62 (by kernel_rfl) rfl #[.pointer (some ⟨g, 0, none⟩), .int .u8 48] rfl (by (simp only [List.map_toArray, List.map_cons, List.map_nil]); rfl) ?_; (with_reducible refine (expr_parser_is.calls g s0_0 s0_1 s0_2 s0_3 s0_4 s0_5 s0_6 s0_7 s0_8 s0_9 s0_10 48 false t200 t201 t202 t203 t204 t205 t206 t207 t208 t209 w0 _ HI0.out HB.out A2.out).mono ?_); rintro e w15 ⟨rfl, hi, hb, hk⟩; refine ⟨_, rfl, ?_⟩; have n0_ := Aside0.mk (KeepBut.trans HK.out hk (.inl rfl)); have n1_ := Aside0.mk (hb); have n2_ := Aside0.mk (hi); clear HK HB HI0; have HK := n0_; have HB := n1_; have HI0 := n2_; clear n0_ n1_ n2_ hb hk hi) | (go_at_call 62; (with_reducible refine (expr_parser_is.calls g s0_0 t200 t201 t202 t203 t204 t205 t206 t207 t208 t209 49 false t211 t212 t213 t214 t215 t216 t217 t218 t219 t220 w0 _ HI0.out HB.out A5.out).mono ?_); rintro e w16 ⟨rfl, hi, hb, hk⟩; have n0_ := Aside0.mk (KeepBut.trans HK.out hk (.inl rfl)); have n1_ := Aside0.mk (hb); have n2_ := Aside0.mk (hi); clear HK HB HI0; have HK := n0_; have HB := n1_; have HI0 := n2_; clear n0_ n1_ n2_ hb hk hi) | (go_at_call 62; (with_reducible refine (expr_parser_is.calls g s0_0 t211 t212 t213 t214 t215 t216 t217 t218 t219 t220 40 false t222 t223 t224 t225 t226 t227 t228 t229 t230 t231 w0 _ HI0.out HB.out A9.out).mono ?_); rintro e w17 ⟨rfl, hi, hb, hk⟩; have n0_ := Aside0.mk (KeepBut.trans HK.out hk (.inl rfl)); have n1_ := Aside0.mk (hb); have n2_ := Aside0.mk (hi); clear HK HB HI0; have HK := n0_; have HB := n1_; have HI0 := n2_; clear n0_ n1_ n2_ hb hk hi; obtain ⟨ASz18_0, cSz18_0, HGz18, hgz18, HSz18_0, HDz18_0⟩ := HI0.out; obtain ⟨hcz18_0, hcz18_1, hcz18_2, hcz18_3, hcz18_4, hcz18_5, hcz18_6, hcz18_7, hcz18_8, hcz18_9, hcz18_10, -, hfz18_1, hfz18_2, hfz18_3, hfz18_4, hfz18_5, hfz18_6, hfz18_7, hfz18_8, hfz18_9, hfz18_10⟩ := Go.Proofs.YtodbnnfiadcbaaaH.cells11 HGz18; clear HGz18 hgz18))
          go_ret
          exact ⟨by rfl, by with_reducible exact HI0.out, by with_reducible exact HB.out, by with_reducible exact HK.out⟩
        · rw [if_neg c14] at H
          have c14b0 : (t225 == 4) = false := beq_eq_false_iff_ne.mpr c14
          have c14b1 : (t225 != 4) = true := bne_iff_ne.mpr c14
          simp only [Option.some.injEq, Prod.mk.injEq] at H
          obtain ⟨rfl, rfl, rfl, rfl, rfl, rfl, rfl, rfl, rfl, rfl, rfl⟩ := H
          go_enter Try.func81, Try.ntmps81
          go_wp2_with (first | ((with_reducible refine gate_callee (f := 62) rfl ?_); refine goesL_ (some 4) rfl rfl Try.func62 (by kernel_rfl) rfl #[.pointer (some ⟨g, 0, none⟩), .int .u8 48] rfl (by (simp only [List.map_toArray, List.map_cons, List.map_nil]); rfl) ?_; (with_reducible refine (expr_parser_is.calls g s0_0 s0_1 s0_2 s0_3 s0_4 s0_5 s0_6 s0_7 s0_8 s0_9 s0_10 48 false t200 t201 t202 t203 t204 t205 t206 t207 t208 t209 w0 _ HI0.out HB.out A2.out).mono ?_); rintro e w19 ⟨rfl, hi, hb, hk⟩; refine ⟨_, rfl, ?_⟩; have n0_ := Aside0.mk (KeepBut.trans HK.out hk (.inl rfl)); have n1_ := Aside0.mk (hb); have n2_ := Aside0.mk (hi); clear HK HB HI0; have HK := n0_; have HB := n1_; have HI0 := n2_; clear n0_ n1_ n2_ hb hk hi) | (go_at_call 62; (with_reducible refine (expr_parser_is.calls g s0_0 t200 t201 t202 t203 t204 t205 t206 t207 t208 t209 49 false t211 t212 t213 t214 t215 t216 t217 t218 t219 t220 w0 _ HI0.out HB.out A5.out).mono ?_); rintro e w20 ⟨rfl, hi, hb, hk⟩; have n0_ := Aside0.mk (KeepBut.trans HK.out hk (.inl rfl)); have n1_ := Aside0.mk (hb); have n2_ := Aside0.mk (hi); clear HK HB HI0; have HK := n0_; have HB := n1_; have HI0 := n2_; clear n0_ n1_ n2_ hb hk hi) | (go_at_call 62; (with_reducible refine (expr_parser_is.calls g s0_0 t211 t212 t213 t214 t215 t216 t217 t218 t219 t220 40 false t222 t223 t224 t225 t226 t227 t228 t229 t230 t231 w0 _ HI0.out HB.out A9.out).mono ?_); rintro e w21 ⟨rfl, hi, hb, hk⟩; have n0_ := Aside0.mk (KeepBut.trans HK.out hk (.inl rfl)); have n1_ := Aside0.mk (hb); have n2_ := Aside0.mk (hi); clear HK HB HI0; have HK := n0_; have HB := n1_; have HI0 := n2_; clear n0_ n1_ n2_ hb hk hi; obtain ⟨ASz22_0, cSz22_0, HGz22, hgz22, HSz22_0, HDz22_0⟩ := HI0.out; obtain ⟨hcz22_0, hcz22_1, hcz22_2, hcz22_3, hcz22_4, hcz22_5, hcz22_6, hcz22_7, hcz22_8, hcz22_9, hcz22_10, -, hfz22_1, hfz22_2, hfz22_3, hfz22_4, hfz22_5, hfz22_6, hfz22_7, hfz22_8, hfz22_9, hfz22_10⟩ := Go.Proofs.YtodbnnfiadcbaaaH.cells11 HGz22; clear HGz22 hgz22))
          go_ret
          exact ⟨by rfl, by with_reducible exact HI0.out, by with_reducible exact HB.out, by with_reducible exact HK.out⟩

end Go.Proofs.Ytodbnnfiadcbaaa.P
namespace Go.Proofs.Ytodbnnfiadcbaaa.P
open Go.RowKit Go.Proofs.YtodbnnfiadcbaaaW.PrintWords Go.Proofs.YtodbnnfiadcbaaaW.PrintLast Go.Proofs.YtodbnnfiadcbaaaW.PrintMore
attribute [local go_sem] max2_int min2_int max_two min_two max_three min_three max_four min_four   -- for this text's walks alone
set_option linter.unusedVariables false
set_option linter.unusedSimpArgs false

/-! ### expr_parser_or: functions 92, 86, 80, 61, 41, that call each other -/
mutual
def expr_parser_within.j0 : Nat → List (S56) → ByteArray → Int → Int → Int → ByteArray → Int → Int → Int → Int → Int → Option (Int × Int × Int × (List (S28)) × ByteArray × Int × Int × Int × ByteArray × Int × Int × Int × Int × Int)
  | 0, _, _, _, _, _, _, _, _, _, _, _ => none
  | k + 1, x1000, x1001, x1002, x1003, x1004, x1005, x1006, x1007, x1008, x1009, x1010 => if x1009 = 0 then ((expr_parser_next.f k x1000 x1001 x1002 x1003 x1004 x1005 x1006 x1007 (wrap64 (x1008 + 1)) x1009 x1010).bind fun bt243 => ((expr_parser_or.f k x1000 bt243.1 bt243.2.1 bt243.2.2.1 bt243.2.2.2.1 bt243.2.2.2.2.1 bt243.2.2.2.2.2.1 bt243.2.2.2.2.2.2.1 bt243.2.2.2.2.2.2.2.1 bt243.2.2.2.2.2.2.2.2.1 bt243.2.2.2.2.2.2.2.2.2).bind fun bt253 => (some (bt253.1, bt253.2.1, bt253.2.2.1, bt253.2.2.2.1, bt253.2.2.2.2.1, bt253.2.2.2.2.2.1, bt253.2.2.2.2.2.2.1, bt253.2.2.2.2.2.2.2.1, bt253.2.2.2.2.2.2.2.2.1, bt253.2.2.2.2.2.2.2.2.2.1, bt253.2.2.2.2.2.2.2.2.2.2.1, wrap64 (bt253.2.2.2.2.2.2.2.2.2.2.2.1 - 1), bt253.2.2.2.2.2.2.2.2.2.2.2.2.1, bt253.2.2.2.2.2.2.2.2.2.2.2.2.2)))) else (some (0, 0, 0, ([] : List (S28)), x1001, x1002, x1003, x1004, x1005, x1006, x1007, x1008, x1009, x1010))
def expr_parser_within.f : Nat → List (S56) → ByteArray → Int → Int → Int → ByteArray → Int → Int → Int → Int → Int → Option (Int × Int × Int × (List (S28)) × ByteArray × Int × Int × Int × ByteArray × Int × Int × Int × Int × Int)
  | 0, _, _, _, _, _, _, _, _, _, _, _ => none
  | k + 1, s0_0, s0_1, s0_2, s0_3, s0_4, s0_5, s0_6, s0_7, s0_8, s0_9, s0_10 => if s0_8 > 40 then ((expr_parser_wrong.f s0_0 s0_1 s0_2 s0_3 s0_4 s0_5 s0_6 s0_7 s0_8 s0_9 s0_10 3).bind fun bt233 => (expr_parser_within.j0 k s0_0 bt233.1 bt233.2.1 bt233.2.2.1 bt233.2.2.2.1 bt233.2.2.2.2.1 bt233.2.2.2.2.2.1 bt233.2.2.2.2.2.2.1 bt233.2.2.2.2.2.2.2.1 bt233.2.2.2.2.2.2.2.2.1 bt233.2.2.2.2.2.2.2.2.2)) else (expr_parser_within.j0 k s0_0 s0_1 s0_2 s0_3 s0_4 s0_5 s0_6 s0_7 s0_8 s0_9 s0_10)
def expr_parser_atom.f : Nat → List (S56) → ByteArray → Int → Int → Int → ByteArray → Int → Int → Int → Int → Int → Option (Int × Int × Int × (List (S28)) × ByteArray × Int × Int × Int × ByteArray × Int × Int × Int × Int × Int)
  | 0, _, _, _, _, _, _, _, _, _, _, _ => none
  | k + 1, s0_0, s0_1, s0_2, s0_3, s0_4, s0_5, s0_6, s0_7, s0_8, s0_9, s0_10 => (expr_parser_is.f s0_0 s0_1 s0_2 s0_3 s0_4 s0_5 s0_6 s0_7 s0_8 s0_9 s0_10 48).bind fun bt272 => (if bt272.1 = true then ((expr_parser_next.f k s0_0 bt272.2.1 bt272.2.2.1 bt272.2.2.2.1 bt272.2.2.2.2.1 bt272.2.2.2.2.2.1 bt272.2.2.2.2.2.2.1 bt272.2.2.2.2.2.2.2.1 bt272.2.2.2.2.2.2.2.2.1 bt272.2.2.2.2.2.2.2.2.2.1 bt272.2.2.2.2.2.2.2.2.2.2).bind fun bt283 => (some (1, 0, 0, ([] : List (S28)), bt283.1, bt283.2.1, bt283.2.2.1, bt283.2.2.2.1, bt283.2.2.2.2.1, bt283.2.2.2.2.2.1, bt283.2.2.2.2.2.2.1, bt283.2.2.2.2.2.2.2.1, bt283.2.2.2.2.2.2.2.2.1, bt283.2.2.2.2.2.2.2.2.2))) else ((expr_parser_is.f s0_0 bt272.2.1 bt272.2.2.1 bt272.2.2.2.1 bt272.2.2.2.2.1 bt272.2.2.2.2.2.1 bt272.2.2.2.2.2.2.1 bt272.2.2.2.2.2.2.2.1 bt272.2.2.2.2.2.2.2.2.1 bt272.2.2.2.2.2.2.2.2.2.1 bt272.2.2.2.2.2.2.2.2.2.2 49).bind fun bt293 => (if bt293.1 = true then ((expr_parser_next.f k s0_0 bt293.2.1 bt293.2.2.1 bt293.2.2.2.1 bt293.2.2.2.2.1 bt293.2.2.2.2.2.1 bt293.2.2.2.2.2.2.1 bt293.2.2.2.2.2.2.2.1 bt293.2.2.2.2.2.2.2.2.1 bt293.2.2.2.2.2.2.2.2.2.1 bt293.2.2.2.2.2.2.2.2.2.2).bind fun bt304 => (some (2, 0, 0, ([] : List (S28)), bt304.1, bt304.2.1, bt304.2.2.1, bt304.2.2.2.1, bt304.2.2.2.2.1, bt304.2.2.2.2.2.1, bt304.2.2.2.2.2.2.1, bt304.2.2.2.2.2.2.2.1, bt304.2.2.2.2.2.2.2.2.1, bt304.2.2.2.2.2.2.2.2.2))) else ((expr_parser_is.f s0_0 bt293.2.1 bt293.2.2.1 bt293.2.2.2.1 bt293.2.2.2.2.1 bt293.2.2.2.2.2.1 bt293.2.2.2.2.2.2.1 bt293.2.2.2.2.2.2.2.1 bt293.2.2.2.2.2.2.2.2.1 bt293.2.2.2.2.2.2.2.2.2.1 bt293.2.2.2.2.2.2.2.2.2.2 40).bind fun bt314 => (if bt314.1 = true then ((expr_parser_within.f k s0_0 bt314.2.1 bt314.2.2.1 bt314.2.2.2.1 bt314.2.2.2.2.1 bt314.2.2.2.2.2.1 bt314.2.2.2.2.2.2.1 bt314.2.2.2.2.2.2.2.1 bt314.2.2.2.2.2.2.2.2.1 bt314.2.2.2.2.2.2.2.2.2.1 bt314.2.2.2.2.2.2.2.2.2.2).bind fun bt325 => ((expr_parser_is.f s0_0 bt325.2.2.2.2.1 bt325.2.2.2.2.2.1 bt325.2.2.2.2.2.2.1 bt325.2.2.2.2.2.2.2.1 bt325.2.2.2.2.2.2.2.2.1 bt325.2.2.2.2.2.2.2.2.2.1 bt325.2.2.2.2.2.2.2.2.2.2.1 bt325.2.2.2.2.2.2.2.2.2.2.2.1 bt325.2.2.2.2.2.2.2.2.2.2.2.2.1 bt325.2.2.2.2.2.2.2.2.2.2.2.2.2 41).bind fun bt341 => (if bt341.1 = true then ((expr_parser_next.f k s0_0 bt341.2.1 bt341.2.2.1 bt341.2.2.2.1 bt341.2.2.2.2.1 bt341.2.2.2.2.2.1 bt341.2.2.2.2.2.2.1 bt341.2.2.2.2.2.2.2.1 bt341.2.2.2.2.2.2.2.2.1 bt341.2.2.2.2.2.2.2.2.2.1 bt341.2.2.2.2.2.2.2.2.2.2).bind fun bt352 => (some (bt325.1, bt325.2.1, bt325.2.2.1, bt325.2.2.2.1, bt352.1, bt352.2.1, bt352.2.2.1, bt352.2.2.2.1, bt352.2.2.2.2.1, bt352.2.2.2.2.2.1, bt352.2.2.2.2.2.2.1, bt352.2.2.2.2.2.2.2.1, bt352.2.2.2.2.2.2.2.2.1, bt352.2.2.2.2.2.2.2.2.2))) else ((expr_parser_wrong.f s0_0 bt341.2.1 bt341.2.2.1 bt341.2.2.2.1 bt341.2.2.2.2.1 bt341.2.2.2.2.2.1 bt341.2.2.2.2.2.2.1 bt341.2.2.2.2.2.2.2.1 bt341.2.2.2.2.2.2.2.2.1 bt341.2.2.2.2.2.2.2.2.2.1 bt341.2.2.2.2.2.2.2.2.2.2 1).bind fun bt362 => ((expr_parser_next.f k s0_0 bt362.1 bt362.2.1 bt362.2.2.1 bt362.2.2.2.1 bt362.2.2.2.2.1 bt362.2.2.2.2.2.1 bt362.2.2.2.2.2.2.1 bt362.2.2.2.2.2.2.2.1 bt362.2.2.2.2.2.2.2.2.1 bt362.2.2.2.2.2.2.2.2.2).bind fun bt372 => (some (bt325.1, bt325.2.1, bt325.2.2.1, bt325.2.2.2.1, bt372.1, bt372.2.1, bt372.2.2.1, bt372.2.2.2.1, bt372.2.2.2.2.1, bt372.2.2.2.2.2.1, bt372.2.2.2.2.2.2.1, bt372.2.2.2.2.2.2.2.1, bt372.2.2.2.2.2.2.2.2.1, bt372.2.2.2.2.2.2.2.2.2))))))) else (if bt314.2.2.2.2.1 = 4 then ((expr_parser_sym.f k s0_0 bt314.2.1 bt314.2.2.1 bt314.2.2.2.1 bt314.2.2.2.2.1 bt314.2.2.2.2.2.1 bt314.2.2.2.2.2.2.1 bt314.2.2.2.2.2.2.2.1 bt314.2.2.2.2.2.2.2.2.1 bt314.2.2.2.2.2.2.2.2.2.1 bt314.2.2.2.2.2.2.2.2.2.2).bind fun bt382 => ((expr_parser_next.f k s0_0 bt382.2.1 bt382.2.2.1 bt382.2.2.2.1 bt382.2.2.2.2.1 bt382.2.2.2.2.2.1 bt382.2.2.2.2.2.2.1 bt382.2.2.2.2.2.2.2.1 bt382.2.2.2.2.2.2.2.2.1 bt382.2.2.2.2.2.2.2.2.2.1 bt382.2.2.2.2.2.2.2.2.2.2).bind fun bt393 => (some (3, bt382.1, 0, ([] : List (S28)), bt393.1, bt393.2.1, bt393.2.2.1, bt393.2.2.2.1, bt393.2.2.2.2.1, bt393.2.2.2.2.2.1, bt393.2.2.2.2.2.2.1, bt393.2.2.2.2.2.2.2.1, bt393.2.2.2.2.2.2.2.2.1, bt393.2.2.2.2.2.2.2.2.2)))) else (if bt314.2.2.2.2.1 = 5 then ((expr_parser_sym.f k s0_0 bt314.2.1 bt314.2.2.1 bt314.2.2.2.1 bt314.2.2.2.2.1 bt314.2.2.2.2.2.1 bt314.2.2.2.2.2.2.1 bt314.2.2.2.2.2.2.2.1 bt314.2.2.2.2.2.2.2.2.1 bt314.2.2.2.2.2.2.2.2.2.1 bt314.2.2.2.2.2.2.2.2.2.2).bind fun bt403 => ((expr_parser_within.f k s0_0 bt403.2.1 bt403.2.2.1 bt403.2.2.2.1 bt403.2.2.2.2.1 bt403.2.2.2.2.2.1 bt403.2.2.2.2.2.2.1 bt403.2.2.2.2.2.2.2.1 bt403.2.2.2.2.2.2.2.2.1 bt403.2.2.2.2.2.2.2.2.2.1 bt403.2.2.2.2.2.2.2.2.2.2).bind fun bt414 => ((some (([(⟨bt414.1, bt414.2.1, bt414.2.2.1, bt414.2.2.2.1⟩ : S28)] : List (S28)) : List (S28))).bind fun y430 => (if bt414.2.2.2.2.2.2.2.1 = 6 then ((expr_parser_sym.f k s0_0 bt414.2.2.2.2.1 bt414.2.2.2.2.2.1 bt414.2.2.2.2.2.2.1 bt414.2.2.2.2.2.2.2.1 bt414.2.2.2.2.2.2.2.2.1 bt414.2.2.2.2.2.2.2.2.2.1 bt414.2.2.2.2.2.2.2.2.2.2.1 bt414.2.2.2.2.2.2.2.2.2.2.2.1 bt414.2.2.2.2.2.2.2.2.2.2.2.2.1 bt414.2.2.2.2.2.2.2.2.2.2.2.2.2).bind fun bt433 => ((expr_parser_next.f k s0_0 bt433.2.1 bt433.2.2.1 bt433.2.2.2.1 bt433.2.2.2.2.1 bt433.2.2.2.2.2.1 bt433.2.2.2.2.2.2.1 bt433.2.2.2.2.2.2.2.1 bt433.2.2.2.2.2.2.2.2.1 bt433.2.2.2.2.2.2.2.2.2.1 bt433.2.2.2.2.2.2.2.2.2.2).bind fun bt444 => (some (4, bt403.1, bt433.1, y430, bt444.1, bt444.2.1, bt444.2.2.1, bt444.2.2.2.1, bt444.2.2.2.2.1, bt444.2.2.2.2.2.1, bt444.2.2.2.2.2.2.1, bt444.2.2.2.2.2.2.2.1, bt444.2.2.2.2.2.2.2.2.1, bt444.2.2.2.2.2.2.2.2.2)))) else ((expr_parser_wrong.f s0_0 bt414.2.2.2.2.1 bt414.2.2.2.2.2.1 bt414.2.2.2.2.2.2.1 bt414.2.2.2.2.2.2.2.1 bt414.2.2.2.2.2.2.2.2.1 bt414.2.2.2.2.2.2.2.2.2.1 bt414.2.2.2.2.2.2.2.2.2.2.1 bt414.2.2.2.2.2.2.2.2.2.2.2.1 bt414.2.2.2.2.2.2.2.2.2.2.2.2.1 bt414.2.2.2.2.2.2.2.2.2.2.2.2.2 1).bind fun bt454 => ((expr_parser_next.f k s0_0 bt454.1 bt454.2.1 bt454.2.2.1 bt454.2.2.2.1 bt454.2.2.2.2.1 bt454.2.2.2.2.2.1 bt454.2.2.2.2.2.2.1 bt454.2.2.2.2.2.2.2.1 bt454.2.2.2.2.2.2.2.2.1 bt454.2.2.2.2.2.2.2.2.2).bind fun bt464 => (some (4, bt403.1, 0, y430, bt464.1, bt464.2.1, bt464.2.2.1, bt464.2.2.2.1, bt464.2.2.2.2.1, bt464.2.2.2.2.2.1, bt464.2.2.2.2.2.2.1, bt464.2.2.2.2.2.2.2.1, bt464.2.2.2.2.2.2.2.2.1, bt464.2.2.2.2.2.2.2.2.2)))))))) else ((expr_parser_wrong.f s0_0 bt314.2.1 bt314.2.2.1 bt314.2.2.2.1 bt314.2.2.2.2.1 bt314.2.2.2.2.2.1 bt314.2.2.2.2.2.2.1 bt314.2.2.2.2.2.2.2.1 bt314.2.2.2.2.2.2.2.2.1 bt314.2.2.2.2.2.2.2.2.2.1 bt314.2.2.2.2.2.2.2.2.2.2 1).bind fun bt474 => ((expr_parser_next.f k s0_0 bt474.1 bt474.2.1 bt474.2.2.1 bt474.2.2.2.1 bt474.2.2.2.2.1 bt474.2.2.2.2.2.1 bt474.2.2.2.2.2.2.1 bt474.2.2.2.2.2.2.2.1 bt474.2.2.2.2.2.2.2.2.1 bt474.2.2.2.2.2.2.2.2.2).bind fun bt484 => (some (0, 0, 0, ([] : List (S28)), bt484.1, bt484.2.1, bt484.2.2.1, bt484.2.2.2.1, bt484.2.2.2.2.1, bt484.2.2.2.2.2.1, bt484.2.2.2.2.2.2.1, bt484.2.2.2.2.2.2.2.1, bt484.2.2.2.2.2.2.2.2.1, bt484.2.2.2.2.2.2.2.2.2)))))))))))
def expr_parser_rep.l0 : Nat → List (S56) → ByteArray → Int → Int → Int → ByteArray → Int → Int → Int → Int → Int → Int → Int → Int → List (S28) → Option (Int × Int × Int × (List (S28)) × ByteArray × Int × Int × Int × ByteArray × Int × Int × Int × Int × Int)
  | 0, _, _, _, _, _, _, _, _, _, _, _, _, _, _, _ => none
  | k + 1, x1000, x1001, x1002, x1003, x1004, x1005, x1006, x1007, x1008, x1009, x1010, x512000, x512001, x512002, x512003 => if x1009 = 0 then ((expr_parser_is.f x1000 x1001 x1002 x1003 x1004 x1005 x1006 x1007 x1008 x1009 x1010 42).bind fun bt512 => (if bt512.1 = true then ((expr_parser_next.f k x1000 bt512.2.1 bt512.2.2.1 bt512.2.2.2.1 bt512.2.2.2.2.1 bt512.2.2.2.2.2.1 bt512.2.2.2.2.2.2.1 bt512.2.2.2.2.2.2.2.1 bt512.2.2.2.2.2.2.2.2.1 bt512.2.2.2.2.2.2.2.2.2.1 bt512.2.2.2.2.2.2.2.2.2.2).bind fun bt526 => (expr_parser_rep.l0 k x1000 bt526.1 bt526.2.1 bt526.2.2.1 bt526.2.2.2.1 bt526.2.2.2.2.1 bt526.2.2.2.2.2.1 bt526.2.2.2.2.2.2.1 bt526.2.2.2.2.2.2.2.1 bt526.2.2.2.2.2.2.2.2.1 bt526.2.2.2.2.2.2.2.2.2 7 0 0 (([(⟨x512000, x512001, x512002, x512003⟩ : S28)] : List (S28))))) else (some (x512000, x512001, x512002, x512003, bt512.2.1, bt512.2.2.1, bt512.2.2.2.1, bt512.2.2.2.2.1, bt512.2.2.2.2.2.1, bt512.2.2.2.2.2.2.1, bt512.2.2.2.2.2.2.2.1, bt512.2.2.2.2.2.2.2.2.1, bt512.2.2.2.2.2.2.2.2.2.1, bt512.2.2.2.2.2.2.2.2.2.2)))) else (some (x512000, x512001, x512002, x512003, x1001, x1002, x1003, x1004, x1005, x1006, x1007, x1008, x1009, x1010))
def expr_parser_rep.f : Nat → List (S56) → ByteArray → Int → Int → Int → ByteArray → Int → Int → Int → Int → Int → Option (Int × Int × Int × (List (S28)) × ByteArray × Int × Int × Int × ByteArray × Int × Int × Int × Int × Int)
  | 0, _, _, _, _, _, _, _, _, _, _, _ => none
  | k + 1, s0_0, s0_1, s0_2, s0_3, s0_4, s0_5, s0_6, s0_7, s0_8, s0_9, s0_10 => (expr_parser_atom.f k s0_0 s0_1 s0_2 s0_3 s0_4 s0_5 s0_6 s0_7 s0_8 s0_9 s0_10).bind fun bt495 => (expr_parser_rep.l0 k s0_0 bt495.2.2.2.2.1 bt495.2.2.2.2.2.1 bt495.2.2.2.2.2.2.1 bt495.2.2.2.2.2.2.2.1 bt495.2.2.2.2.2.2.2.2.1 bt495.2.2.2.2.2.2.2.2.2.1 bt495.2.2.2.2.2.2.2.2.2.2.1 bt495.2.2.2.2.2.2.2.2.2.2.2.1 bt495.2.2.2.2.2.2.2.2.2.2.2.2.1 bt495.2.2.2.2.2.2.2.2.2.2.2.2.2 bt495.1 bt495.2.1 bt495.2.2.1 bt495.2.2.2.1)
def expr_parser_cat.l0 : Nat → List (S28) → List (S56) → ByteArray → Int → Int → Int → ByteArray → Int → Int → Int → Int → Int → Option (Int × Int × Int × (List (S28)) × ByteArray × Int × Int × Int × ByteArray × Int × Int × Int × Int × Int)
  | 0, _, _, _, _, _, _, _, _, _, _, _, _ => none
  | k + 1, x3, x1000, x1001, x1002, x1003, x1004, x1005, x1006, x1007, x1008, x1009, x1010 => if x1009 = 0 then ((expr_parser_begins.f x1000 x1001 x1002 x1003 x1004 x1005 x1006 x1007 x1008 x1009 x1010).bind fun bt556 => (if bt556.1 = true then ((expr_parser_rep.f k x1000 bt556.2.1 bt556.2.2.1 bt556.2.2.2.1 bt556.2.2.2.2.1 bt556.2.2.2.2.2.1 bt556.2.2.2.2.2.2.1 bt556.2.2.2.2.2.2.2.1 bt556.2.2.2.2.2.2.2.2.1 bt556.2.2.2.2.2.2.2.2.2.1 bt556.2.2.2.2.2.2.2.2.2.2).bind fun bt567 => (if x3.length < 2932031007402 then (expr_parser_cat.l0 k (x3 ++ [(⟨bt567.1, bt567.2.1, bt567.2.2.1, bt567.2.2.2.1⟩ : S28)]) x1000 bt567.2.2.2.2.1 bt567.2.2.2.2.2.1 bt567.2.2.2.2.2.2.1 bt567.2.2.2.2.2.2.2.1 bt567.2.2.2.2.2.2.2.2.1 bt567.2.2.2.2.2.2.2.2.2.1 bt567.2.2.2.2.2.2.2.2.2.2.1 bt567.2.2.2.2.2.2.2.2.2.2.2.1 bt567.2.2.2.2.2.2.2.2.2.2.2.2.1 bt567.2.2.2.2.2.2.2.2.2.2.2.2.2) else (none))) else ((expr_several.f 5 x3).bind fun bt586 => (some (bt586.1, bt586.2.1, bt586.2.2.1, bt586.2.2.2, bt556.2.1, bt556.2.2.1, bt556.2.2.2.1, bt556.2.2.2.2.1, bt556.2.2.2.2.2.1, bt556.2.2.2.2.2.2.1, bt556.2.2.2.2.2.2.2.1, bt556.2.2.2.2.2.2.2.2.1, bt556.2.2.2.2.2.2.2.2.2.1, bt556.2.2.2.2.2.2.2.2.2.2))))) else ((expr_several.f 5 x3).bind fun bt592 => (some (bt592.1, bt592.2.1, bt592.2.2.1, bt592.2.2.2, x1001, x1002, x1003, x1004, x1005, x1006, x1007, x1008, x1009, x1010)))
def expr_parser_cat.f : Nat → List (S56) → ByteArray → Int → Int → Int → ByteArray → Int → Int → Int → Int → Int → Option (Int × Int × Int × (List (S28)) × ByteArray × Int × Int × Int × ByteArray × Int × Int × Int × Int × Int)
  | 0, _, _, _, _, _, _, _, _, _, _, _ => none
  | k + 1, s0_0, s0_1, s0_2, s0_3, s0_4, s0_5, s0_6, s0_7, s0_8, s0_9, s0_10 => (expr_parser_rep.f k s0_0 s0_1 s0_2 s0_3 s0_4 s0_5 s0_6 s0_7 s0_8 s0_9 s0_10).bind fun bt537 => (expr_parser_cat.l0 k (([(⟨bt537.1, bt537.2.1, bt537.2.2.1, bt537.2.2.2.1⟩ : S28)] : List (S28))) s0_0 bt537.2.2.2.2.1 bt537.2.2.2.2.2.1 bt537.2.2.2.2.2.2.1 bt537.2.2.2.2.2.2.2.1 bt537.2.2.2.2.2.2.2.2.1 bt537.2.2.2.2.2.2.2.2.2.1 bt537.2.2.2.2.2.2.2.2.2.2.1 bt537.2.2.2.2.2.2.2.2.2.2.2.1 bt537.2.2.2.2.2.2.2.2.2.2.2.2.1 bt537.2.2.2.2.2.2.2.2.2.2.2.2.2)
def expr_parser_or.l0 : Nat → List (S28) → List (S56) → ByteArray → Int → Int → Int → ByteArray → Int → Int → Int → Int → Int → Option (Int × Int × Int × (List (S28)) × ByteArray × Int × Int × Int × ByteArray × Int × Int × Int × Int × Int)
  | 0, _, _, _, _, _, _, _, _, _, _, _, _ => none
  | k + 1, x3, x1000, x1001, x1002, x1003, x1004, x1005, x1006, x1007, x1008, x1009, x1010 => if x1009 = 0 then ((expr_parser_is.f x1000 x1001 x1002 x1003 x1004 x1005 x1006 x1007 x1008 x1009 x1010 124).bind fun bt618 => (expr_parser_or.j1 k x3 bt618.1 x1000 bt618.2.1 bt618.2.2.1 bt618.2.2.2.1 bt618.2.2.2.2.1 bt618.2.2.2.2.2.1 bt618.2.2.2.2.2.2.1 bt618.2.2.2.2.2.2.2.1 bt618.2.2.2.2.2.2.2.2.1 bt618.2.2.2.2.2.2.2.2.2.1 bt618.2.2.2.2.2.2.2.2.2.2)) else (expr_parser_or.j1 k x3 false x1000 x1001 x1002 x1003 x1004 x1005 x1006 x1007 x1008 x1009 x1010)
def expr_parser_or.j1 : Nat → List (S28) → Bool → List (S56) → ByteArray → Int → Int → Int → ByteArray → Int → Int → Int → Int → Int → Option (Int × Int × Int × (List (S28)) × ByteArray × Int × Int × Int × ByteArray × Int × Int × Int × Int × Int)
  | 0, _, _, _, _, _, _, _, _, _, _, _, _, _ => none
  | k + 1, x3, x15, x1000, x1001, x1002, x1003, x1004, x1005, x1006, x1007, x1008, x1009, x1010 => if x15 = true then ((expr_parser_next.f k x1000 x1001 x1002 x1003 x1004 x1005 x1006 x1007 x1008 x1009 x1010).bind fun bt629 => ((expr_parser_cat.f k x1000 bt629.1 bt629.2.1 bt629.2.2.1 bt629.2.2.2.1 bt629.2.2.2.2.1 bt629.2.2.2.2.2.1 bt629.2.2.2.2.2.2.1 bt629.2.2.2.2.2.2.2.1 bt629.2.2.2.2.2.2.2.2.1 bt629.2.2.2.2.2.2.2.2.2).bind fun bt639 => (if x3.length < 2932031007402 then (expr_parser_or.l0 k (x3 ++ [(⟨bt639.1, bt639.2.1, bt639.2.2.1, bt639.2.2.2.1⟩ : S28)]) x1000 bt639.2.2.2.2.1 bt639.2.2.2.2.2.1 bt639.2.2.2.2.2.2.1 bt639.2.2.2.2.2.2.2.1 bt639.2.2.2.2.2.2.2.2.1 bt639.2.2.2.2.2.2.2.2.2.1 bt639.2.2.2.2.2.2.2.2.2.2.1 bt639.2.2.2.2.2.2.2.2.2.2.2.1 bt639.2.2.2.2.2.2.2.2.2.2.2.2.1 bt639.2.2.2.2.2.2.2.2.2.2.2.2.2) else (none)))) else ((expr_several.f 6 x3).bind fun bt658 => (some (bt658.1, bt658.2.1, bt658.2.2.1, bt658.2.2.2, x1001, x1002, x1003, x1004, x1005, x1006, x1007, x1008, x1009, x1010)))
def expr_parser_or.f : Nat → List (S56) → ByteArray → Int → Int → Int → ByteArray → Int → Int → Int → Int → Int → Option (Int × Int × Int × (List (S28)) × ByteArray × Int × Int × Int × ByteArray × Int × Int × Int × Int × Int)
  | 0, _, _, _, _, _, _, _, _, _, _, _ => none
  | k + 1, s0_0, s0_1, s0_2, s0_3, s0_4, s0_5, s0_6, s0_7, s0_8, s0_9, s0_10 => (expr_parser_cat.f k s0_0 s0_1 s0_2 s0_3 s0_4 s0_5 s0_6 s0_7 s0_8 s0_9 s0_10).bind fun bt599 => (expr_parser_or.l0 k (([(⟨bt599.1, bt599.2.1, bt599.2.2.1, bt599.2.2.2.1⟩ : S28)] : List (S28))) s0_0 bt599.2.2.2.2.1 bt599.2.2.2.2.2.1 bt599.2.2.2.2.2.2.1 bt599.2.2.2.2.2.2.2.1 bt599.2.2.2.2.2.2.2.2.1 bt599.2.2.2.2.2.2.2.2.2.1 bt599.2.2.2.2.2.2.2.2.2.2.1 bt599.2.2.2.2.2.2.2.2.2.2.2.1 bt599.2.2.2.2.2.2.2.2.2.2.2.2.1 bt599.2.2.2.2.2.2.2.2.2.2.2.2.2)
end
set_option maxHeartbeats 4000000 in
theorem expr_parser_or.mono_g : ∀ k, (∀ y0 y1 y2 y3 y4 y5 y6 y7 y8 y9 y10, LeO (expr_parser_within.f k y0 y1 y2 y3 y4 y5 y6 y7 y8 y9 y10) (expr_parser_within.f (k + 1) y0 y1 y2 y3 y4 y5 y6 y7 y8 y9 y10)) ∧ (∀ y0 y1 y2 y3 y4 y5 y6 y7 y8 y9 y10, LeO (expr_parser_within.j0 k y0 y1 y2 y3 y4 y5 y6 y7 y8 y9 y10) (expr_parser_within.j0 (k + 1) y0 y1 y2 y3 y4 y5 y6 y7 y8 y9 y10)) ∧ (∀ y0 y1 y2 y3 y4 y5 y6 y7 y8 y9 y10, LeO (expr_parser_atom.f k y0 y1 y2 y3 y4 y5 y6 y7 y8 y9 y10) (expr_parser_atom.f (k + 1) y0 y1 y2 y3 y4 y5 y6 y7 y8 y9 y10)) ∧ (∀ y0 y1 y2 y3 y4 y5 y6 y7 y8 y9 y10, LeO (expr_parser_rep.f k y0 y1 y2 y3 y4 y5 y6 y7 y8 y9 y10) (expr_parser_rep.f (k + 1) y0 y1 y2 y3 y4 y5 y6 y7 y8 y9 y10)) ∧ (∀ y0 y1 y2 y3 y4 y5 y6 y7 y8 y9 y10 y11 y12 y13 y14, LeO (expr_parser_rep.l0 k y0 y1 y2 y3 y4 y5 y6 y7 y8 y9 y10 y11 y12 y13 y14) (expr_parser_rep.l0 (k + 1) y0 y1 y2 y3 y4 y5 y6 y7 y8 y9 y10 y11 y12 y13 y14)) ∧ (∀ y0 y1 y2 y3 y4 y5 y6 y7 y8 y9 y10, LeO (expr_parser_cat.f k y0 y1 y2 y3 y4 y5 y6 y7 y8 y9 y10) (expr_parser_cat.f (k + 1) y0 y1 y2 y3 y4 y5 y6 y7 y8 y9 y10)) ∧ (∀ y0 y1 y2 y3 y4 y5 y6 y7 y8 y9 y10 y11, LeO (expr_parser_cat.l0 k y0 y1 y2 y3 y4 y5 y6 y7 y8 y9 y10 y11) (expr_parser_cat.l0 (k + 1) y0 y1 y2 y3 y4 y5 y6 y7 y8 y9 y10 y11)) ∧ (∀ y0 y1 y2 y3 y4 y5 y6 y7 y8 y9 y10, LeO (expr_parser_or.f k y0 y1 y2 y3 y4 y5 y6 y7 y8 y9 y10) (expr_parser_or.f (k + 1) y0 y1 y2 y3 y4 y5 y6 y7 y8 y9 y10)) ∧ (∀ y0 y1 y2 y3 y4 y5 y6 y7 y8 y9 y10 y11, LeO (expr_parser_or.l0 k y0 y1 y2 y3 y4 y5 y6 y7 y8 y9 y10 y11) (expr_parser_or.l0 (k + 1) y0 y1 y2 y3 y4 y5 y6 y7 y8 y9 y10 y11)) ∧ (∀ y0 y1 y2 y3 y4 y5 y6 y7 y8 y9 y10 y11 y12, LeO (expr_parser_or.j1 k y0 y1 y2 y3 y4 y5 y6 y7 y8 y9 y10 y11 y12) (expr_parser_or.j1 (k + 1) y0 y1 y2 y3 y4 y5 y6 y7 y8 y9 y10 y11 y12))
  | 0 => ⟨fun _ _ _ _ _ _ _ _ _ _ _ r h => by simp [expr_parser_within.f] at h, fun _ _ _ _ _ _ _ _ _ _ _ r h => by simp [expr_parser_within.j0] at h, fun _ _ _ _ _ _ _ _ _ _ _ r h => by simp [expr_parser_atom.f] at h, fun _ _ _ _ _ _ _ _ _ _ _ r h => by simp [expr_parser_rep.f] at h, fun _ _ _ _ _ _ _ _ _ _ _ _ _ _ _ r h => by simp [expr_parser_rep.l0] at h, fun _ _ _ _ _ _ _ _ _ _ _ r h => by simp [expr_parser_cat.f] at h, fun _ _ _ _ _ _ _ _ _ _ _ _ r h => by simp [expr_parser_cat.l0] at h, fun _ _ _ _ _ _ _ _ _ _ _ r h => by simp [expr_parser_or.f] at h, fun _ _ _ _ _ _ _ _ _ _ _ _ r h => by simp [expr_parser_or.l0] at h, fun _ _ _ _ _ _ _ _ _ _ _ _ _ r h => by simp [expr_parser_or.j1] at h⟩
  | k + 1 => by
    obtain ⟨ih0, ih1, ih2, ih3, ih4, ih5, ih6, ih7, ih8, ih9⟩ := expr_parser_or.mono_g k
    refine ⟨?_, ?_, ?_, ?_, ?_, ?_, ?_, ?_, ?_, ?_⟩
    · intro y0 y1 y2 y3 y4 y5 y6 y7 y8 y9 y10
      unfold expr_parser_within.f
      repeat' first
      | (with_reducible exact ih1 _ _ _ _ _ _ _ _ _ _ _)
      | (with_reducible exact LeO.refl _)
      | (with_reducible refine LeO.ite ?_ ?_)
      | (with_reducible refine LeO.bind ?_ (fun _ => ?_))
    · intro y0 y1 y2 y3 y4 y5 y6 y7 y8 y9 y10
      unfold expr_parser_within.j0
      repeat' first
      | (with_reducible exact ih7 _ _ _ _ _ _ _ _ _ _ _)
      | (with_reducible exact expr_parser_next.mono _ _ _ _ _ _ _ _ _ _ _ _)
      | (with_reducible exact LeO.refl _)
      | (with_reducible refine LeO.ite ?_ ?_)
      | (with_reducible refine LeO.bind ?_ (fun _ => ?_))
    · intro y0 y1 y2 y3 y4 y5 y6 y7 y8 y9 y10
      unfold expr_parser_atom.f
      repeat' first
      | (with_reducible exact ih0 _ _ _ _ _ _ _ _ _ _ _)
      | (with_reducible exact expr_parser_next.mono _ _ _ _ _ _ _ _ _ _ _ _)
      | (with_reducible exact expr_parser_sym.mono _ _ _ _ _ _ _ _ _ _ _ _)
      | (with_reducible exact LeO.refl _)
      | (with_reducible refine LeO.ite ?_ ?_)
      | (with_reducible refine LeO.bind ?_ (fun _ => ?_))
    · intro y0 y1 y2 y3 y4 y5 y6 y7 y8 y9 y10
      unfold expr_parser_rep.f
      repeat' first
      | (with_reducible exact ih2 _ _ _ _ _ _ _ _ _ _ _)
      | (with_reducible exact ih4 _ _ _ _ _ _ _ _ _ _ _ _ _ _ _)
      | (with_reducible refine LeO.bind ?_ (fun _ => ?_))
    · intro y0 y1 y2 y3 y4 y5 y6 y7 y8 y9 y10 y11 y12 y13 y14
      unfold expr_parser_rep.l0
      repeat' first
      | (with_reducible exact ih4 _ _ _ _ _ _ _ _ _ _ _ _ _ _ _)
      | (with_reducible exact expr_parser_next.mono _ _ _ _ _ _ _ _ _ _ _ _)
      | (with_reducible exact LeO.refl _)
      | (with_reducible refine LeO.ite ?_ ?_)
      | (with_reducible refine LeO.bind ?_ (fun _ => ?_))
    · intro y0 y1 y2 y3 y4 y5 y6 y7 y8 y9 y10
      unfold expr_parser_cat.f
      repeat' first
      | (with_reducible exact ih3 _ _ _ _ _ _ _ _ _ _ _)
      | (with_reducible exact ih6 _ _ _ _ _ _ _ _ _ _ _ _)
      | (with_reducible refine LeO.bind ?_ (fun _ => ?_))
    · intro y0 y1 y2 y3 y4 y5 y6 y7 y8 y9 y10 y11
      unfold expr_parser_cat.l0
      repeat' first
      | (with_reducible exact ih3 _ _ _ _ _ _ _ _ _ _ _)
      | (with_reducible exact ih6 _ _ _ _ _ _ _ _ _ _ _ _)
      | (with_reducible exact LeO.refl _)
      | (with_reducible refine LeO.ite ?_ ?_)
      | (with_reducible refine LeO.bind ?_ (fun _ => ?_))
    · intro y0 y1 y2 y3 y4 y5 y6 y7 y8 y9 y10
      unfold expr_parser_or.f
      repeat' first
      | (with_reducible exact ih5 _ _ _ _ _ _ _ _ _ _ _)
      | (with_reducible exact ih8 _ _ _ _ _ _ _ _ _ _ _ _)
      | (with_reducible refine LeO.bind ?_ (fun _ => ?_))
    · intro y0 y1 y2 y3 y4 y5 y6 y7 y8 y9 y10 y11
      unfold expr_parser_or.l0
      repeat' first
      | (with_reducible exact ih9 _ _ _ _ _ _ _ _ _ _ _ _ _)
      | (with_reducible exact LeO.refl _)
      | (with_reducible refine LeO.ite ?_ ?_)
      | (with_reducible refine LeO.bind ?_ (fun _ => ?_))
    · intro y0 y1 y2 y3 y4 y5 y6 y7 y8 y9 y10 y11 y12
      unfold expr_parser_or.j1
      repeat' first
      | (with_reducible exact ih5 _ _ _ _ _ _ _ _ _ _ _)
      | (with_reducible exact ih8 _ _ _ _ _ _ _ _ _ _ _ _)
      | (with_reducible exact expr_parser_next.mono _ _ _ _ _ _ _ _ _ _ _ _)
      | (with_reducible exact LeO.refl _)
      | (with_reducible refine LeO.ite ?_ ?_)
      | (with_reducible refine LeO.bind ?_ (fun _ => ?_))
theorem expr_parser_within.mono : ∀ a0 a1 a2 a3 a4 a5 a6 a7 a8 a9 a10 k, LeO (expr_parser_within.f k a0 a1 a2 a3 a4 a5 a6 a7 a8 a9 a10) (expr_parser_within.f (k + 1) a0 a1 a2 a3 a4 a5 a6 a7 a8 a9 a10) := by
  intro a0 a1 a2 a3 a4 a5 a6 a7 a8 a9 a10 k
  obtain ⟨ih0, ih1, ih2, ih3, ih4, ih5, ih6, ih7, ih8, ih9⟩ := expr_parser_or.mono_g k
  exact ih0 a0 a1 a2 a3 a4 a5 a6 a7 a8 a9 a10
theorem expr_parser_atom.mono : ∀ a0 a1 a2 a3 a4 a5 a6 a7 a8 a9 a10 k, LeO (expr_parser_atom.f k a0 a1 a2 a3 a4 a5 a6 a7 a8 a9 a10) (expr_parser_atom.f (k + 1) a0 a1 a2 a3 a4 a5 a6 a7 a8 a9 a10) := by
  intro a0 a1 a2 a3 a4 a5 a6 a7 a8 a9 a10 k
  obtain ⟨ih0, ih1, ih2, ih3, ih4, ih5, ih6, ih7, ih8, ih9⟩ := expr_parser_or.mono_g k
  exact ih2 a0 a1 a2 a3 a4 a5 a6 a7 a8 a9 a10
theorem expr_parser_rep.mono : ∀ a0 a1 a2 a3 a4 a5 a6 a7 a8 a9 a10 k, LeO (expr_parser_rep.f k a0 a1 a2 a3 a4 a5 a6 a7 a8 a9 a10) (expr_parser_rep.f (k + 1) a0 a1 a2 a3 a4 a5 a6 a7 a8 a9 a10) := by
  intro a0 a1 a2 a3 a4 a5 a6 a7 a8 a9 a10 k
  obtain ⟨ih0, ih1, ih2, ih3, ih4, ih5, ih6, ih7, ih8, ih9⟩ := expr_parser_or.mono_g k
  exact ih3 a0 a1 a2 a3 a4 a5 a6 a7 a8 a9 a10
theorem expr_parser_cat.mono : ∀ a0 a1 a2 a3 a4 a5 a6 a7 a8 a9 a10 k, LeO (expr_parser_cat.f k a0 a1 a2 a3 a4 a5 a6 a7 a8 a9 a10) (expr_parser_cat.f (k + 1) a0 a1 a2 a3 a4 a5 a6 a7 a8 a9 a10) := by
  intro a0 a1 a2 a3 a4 a5 a6 a7 a8 a9 a10 k
  obtain ⟨ih0, ih1, ih2, ih3, ih4, ih5, ih6, ih7, ih8, ih9⟩ := expr_parser_or.mono_g k
  exact ih5 a0 a1 a2 a3 a4 a5 a6 a7 a8 a9 a10
theorem expr_parser_or.mono : ∀ a0 a1 a2 a3 a4 a5 a6 a7 a8 a9 a10 k, LeO (expr_parser_or.f k a0 a1 a2 a3 a4 a5 a6 a7 a8 a9 a10) (expr_parser_or.f (k + 1) a0 a1 a2 a3 a4 a5 a6 a7 a8 a9 a10) := by
  intro a0 a1 a2 a3 a4 a5 a6 a7 a8 a9 a10 k
  obtain ⟨ih0, ih1, ih2, ih3, ih4, ih5, ih6, ih7, ih8, ih9⟩ := expr_parser_or.mono_g k
  exact ih7 a0 a1 a2 a3 a4 a5 a6 a7 a8 a9 a10

end Go.Proofs.Ytodbnnfiadcbaaa.P
namespace Go.Proofs.Ytodbnnfiadcbaaa.P
open Go.RowKit Go.Proofs.YtodbnnfiadcbaaaW.PrintWords Go.Proofs.YtodbnnfiadcbaaaW.PrintLast Go.Proofs.YtodbnnfiadcbaaaW.PrintMore
attribute [local go_sem] max2_int min2_int max_two min_two max_three min_three max_four min_four   -- for this text's walks alone
set_option linter.unusedVariables false
set_option linter.unusedSimpArgs false

abbrev expr_parser_within.S (k : Nat) : Prop := ∀ (g : Nat) (s0_0 : List (S56)) (s0_1 : ByteArray) (s0_2 : Int) (s0_3 : Int) (s0_4 : Int) (s0_5 : ByteArray) (s0_6 : Int) (s0_7 : Int) (s0_8 : Int) (s0_9 : Int) (s0_10 : Int) (r1 : Int) (r2 : Int) (r3 : Int) (r4 : List (S28)) (r5 : ByteArray) (r6 : Int) (r7 : Int) (r8 : Int) (r9 : ByteArray) (r10 : Int) (r11 : Int) (r12 : Int) (r13 : Int) (r14 : Int) (w0 w : World) (hI : IsS75 w0 w g s0_0 s0_1 s0_2 s0_3 s0_4 s0_5 s0_6 s0_7 s0_8 s0_9 s0_10) (hB : Below w0.heap.size w0 w) (h : expr_parser_within.f k s0_0 s0_1 s0_2 s0_3 s0_4 s0_5 s0_6 s0_7 s0_8 s0_9 s0_10 = some (r1, r2, r3, r4, r5, r6, r7, r8, r9, r10, r11, r12, r13, r14)),
    Calls Try.prog 92 #[.pointer (some ⟨g, 0, none⟩)] w fun e w' => ∃ v3_ : Value, e = .returned (.agg #[.int .i64 r1, .int .i64 r2, .int .i64 r3, v3_]) ∧ Kd.V k28 28 w' w.heap.size (fun k_ => (w.heap.size ≤ k_)) v3_ r4 ∧ IsS75 w0 w' g s0_0 r5 r6 r7 r8 r9 r10 r11 r12 r13 r14 ∧ Below w0.heap.size w0 w' ∧ KeepBut w w' g none
abbrev expr_parser_atom.S (k : Nat) : Prop := ∀ (g : Nat) (s0_0 : List (S56)) (s0_1 : ByteArray) (s0_2 : Int) (s0_3 : Int) (s0_4 : Int) (s0_5 : ByteArray) (s0_6 : Int) (s0_7 : Int) (s0_8 : Int) (s0_9 : Int) (s0_10 : Int) (r1 : Int) (r2 : Int) (r3 : Int) (r4 : List (S28)) (r5 : ByteArray) (r6 : Int) (r7 : Int) (r8 : Int) (r9 : ByteArray) (r10 : Int) (r11 : Int) (r12 : Int) (r13 : Int) (r14 : Int) (w0 w : World) (hI : IsS75 w0 w g s0_0 s0_1 s0_2 s0_3 s0_4 s0_5 s0_6 s0_7 s0_8 s0_9 s0_10) (hB : Below w0.heap.size w0 w) (h : expr_parser_atom.f k s0_0 s0_1 s0_2 s0_3 s0_4 s0_5 s0_6 s0_7 s0_8 s0_9 s0_10 = some (r1, r2, r3, r4, r5, r6, r7, r8, r9, r10, r11, r12, r13, r14)),
    Calls Try.prog 86 #[.pointer (some ⟨g, 0, none⟩)] w fun e w' => ∃ v3_ : Value, e = .returned (.agg #[.int .i64 r1, .int .i64 r2, .int .i64 r3, v3_]) ∧ Kd.V k28 28 w' w.heap.size (fun k_ => (w.heap.size ≤ k_)) v3_ r4 ∧ IsS75 w0 w' g s0_0 r5 r6 r7 r8 r9 r10 r11 r12 r13 r14 ∧ Below w0.heap.size w0 w' ∧ KeepBut w w' g none
abbrev expr_parser_rep.S (k : Nat) : Prop := ∀ (g : Nat) (s0_0 : List (S56)) (s0_1 : ByteArray) (s0_2 : Int) (s0_3 : Int) (s0_4 : Int) (s0_5 : ByteArray) (s0_6 : Int) (s0_7 : Int) (s0_8 : Int) (s0_9 : Int) (s0_10 : Int) (r1 : Int) (r2 : Int) (r3 : Int) (r4 : List (S28)) (r5 : ByteArray) (r6 : Int) (r7 : Int) (r8 : Int) (r9 : ByteArray) (r10 : Int) (r11 : Int) (r12 : Int) (r13 : Int) (r14 : Int) (w0 w : World) (hI : IsS75 w0 w g s0_0 s0_1 s0_2 s0_3 s0_4 s0_5 s0_6 s0_7 s0_8 s0_9 s0_10) (hB : Below w0.heap.size w0 w) (h : expr_parser_rep.f k s0_0 s0_1 s0_2 s0_3 s0_4 s0_5 s0_6 s0_7 s0_8 s0_9 s0_10 = some (r1, r2, r3, r4, r5, r6, r7, r8, r9, r10, r11, r12, r13, r14)),
    Calls Try.prog 80 #[.pointer (some ⟨g, 0, none⟩)] w fun e w' => ∃ v3_ : Value, e = .returned (.agg #[.int .i64 r1, .int .i64 r2, .int .i64 r3, v3_]) ∧ Kd.V k28 28 w' w.heap.size (fun k_ => (w.heap.size ≤ k_)) v3_ r4 ∧ IsS75 w0 w' g s0_0 r5 r6 r7 r8 r9 r10 r11 r12 r13 r14 ∧ Below w0.heap.size w0 w' ∧ KeepBut w w' g none
abbrev expr_parser_cat.S (k : Nat) : Prop := ∀ (g : Nat) (s0_0 : List (S56)) (s0_1 : ByteArray) (s0_2 : Int) (s0_3 : Int) (s0_4 : Int) (s0_5 : ByteArray) (s0_6 : Int) (s0_7 : Int) (s0_8 : Int) (s0_9 : Int) (s0_10 : Int) (r1 : Int) (r2 : Int) (r3 : Int) (r4 : List (S28)) (r5 : ByteArray) (r6 : Int) (r7 : Int) (r8 : Int) (r9 : ByteArray) (r10 : Int) (r11 : Int) (r12 : Int) (r13 : Int) (r14 : Int) (w0 w : World) (hI : IsS75 w0 w g s0_0 s0_1 s0_2 s0_3 s0_4 s0_5 s0_6 s0_7 s0_8 s0_9 s0_10) (hB : Below w0.heap.size w0 w) (h : expr_parser_cat.f k s0_0 s0_1 s0_2 s0_3 s0_4 s0_5 s0_6 s0_7 s0_8 s0_9 s0_10 = some (r1, r2, r3, r4, r5, r6, r7, r8, r9, r10, r11, r12, r13, r14)),
    Calls Try.prog 61 #[.pointer (some ⟨g, 0, none⟩)] w fun e w' => ∃ v3_ : Value, e = .returned (.agg #[.int .i64 r1, .int .i64 r2, .int .i64 r3, v3_]) ∧ Kd.V k28 28 w' w.heap.size (fun k_ => (w.heap.size ≤ k_)) v3_ r4 ∧ IsS75 w0 w' g s0_0 r5 r6 r7 r8 r9 r10 r11 r12 r13 r14 ∧ Below w0.heap.size w0 w' ∧ KeepBut w w' g none
abbrev expr_parser_or.S (k : Nat) : Prop := ∀ (g : Nat) (s0_0 : List (S56)) (s0_1 : ByteArray) (s0_2 : Int) (s0_3 : Int) (s0_4 : Int) (s0_5 : ByteArray) (s0_6 : Int) (s0_7 : Int) (s0_8 : Int) (s0_9 : Int) (s0_10 : Int) (r1 : Int) (r2 : Int) (r3 : Int) (r4 : List (S28)) (r5 : ByteArray) (r6 : Int) (r7 : Int) (r8 : Int) (r9 : ByteArray) (r10 : Int) (r11 : Int) (r12 : Int) (r13 : Int) (r14 : Int) (w0 w : World) (hI : IsS75 w0 w g s0_0 s0_1 s0_2 s0_3 s0_4 s0_5 s0_6 s0_7 s0_8 s0_9 s0_10) (hB : Below w0.heap.size w0 w) (h : expr_parser_or.f k s0_0 s0_1 s0_2 s0_3 s0_4 s0_5 s0_6 s0_7 s0_8 s0_9 s0_10 = some (r1, r2, r3, r4, r5, r6, r7, r8, r9, r10, r11, r12, r13, r14)),
    Calls Try.prog 41 #[.pointer (some ⟨g, 0, none⟩)] w fun e w' => ∃ v3_ : Value, e = .returned (.agg #[.int .i64 r1, .int .i64 r2, .int .i64 r3, v3_]) ∧ Kd.V k28 28 w' w.heap.size (fun k_ => (w.heap.size ≤ k_)) v3_ r4 ∧ IsS75 w0 w' g s0_0 r5 r6 r7 r8 r9 r10 r11 r12 r13 r14 ∧ Below w0.heap.size w0 w' ∧ KeepBut w w' g none

end Go.Proofs.Ytodbnnfiadcbaaa.P
namespace Go.Proofs.Ytodbnnfiadcbaaa.P
open Go.RowKit Go.Proofs.YtodbnnfiadcbaaaW.PrintWords Go.Proofs.YtodbnnfiadcbaaaW.PrintLast Go.Proofs.YtodbnnfiadcbaaaW.PrintMore
attribute [local go_sem] max2_int min2_int max_two min_two max_three min_three max_four min_four   -- for this text's walks alone
set_option linter.unusedVariables false
set_option linter.unusedSimpArgs false

/-! ### expr_parser_within: function 92 -/
set_option maxHeartbeats 8000000 in
set_option maxRecDepth 100000 in
theorem expr_parser_within.step (k : Nat) (ih41 : ∀ m, m < k → expr_parser_or.S m) (ih61 : ∀ m, m < k → expr_parser_cat.S m) (ih80 : ∀ m, m < k → expr_parser_rep.S m) (ih86 : ∀ m, m < k → expr_parser_atom.S m) (ih92 : ∀ m, m < k → expr_parser_within.S m) : ∀ (g : Nat) (s0_0 : List (S56)) (s0_1 : ByteArray) (s0_2 : Int) (s0_3 : Int) (s0_4 : Int) (s0_5 : ByteArray) (s0_6 : Int) (s0_7 : Int) (s0_8 : Int) (s0_9 : Int) (s0_10 : Int) (r1 : Int) (r2 : Int) (r3 : Int) (r4 : List (S28)) (r5 : ByteArray) (r6 : Int) (r7 : Int) (r8 : Int) (r9 : ByteArray) (r10 : Int) (r11 : Int) (r12 : Int) (r13 : Int) (r14 : Int) (w0 w : World) (hI : IsS75 w0 w g s0_0 s0_1 s0_2 s0_3 s0_4 s0_5 s0_6 s0_7 s0_8 s0_9 s0_10) (hB : Below w0.heap.size w0 w) (h : expr_parser_within.f k s0_0 s0_1 s0_2 s0_3 s0_4 s0_5 s0_6 s0_7 s0_8 s0_9 s0_10 = some (r1, r2, r3, r4, r5, r6, r7, r8, r9, r10, r11, r12, r13, r14)),
    Calls Try.prog 92 #[.pointer (some ⟨g, 0, none⟩)] w fun e w' => ∃ v3_ : Value, e = .returned (.agg #[.int .i64 r1, .int .i64 r2, .int .i64 r3, v3_]) ∧ Kd.V k28 28 w' w.heap.size (fun k_ => (w.heap.size ≤ k_)) v3_ r4 ∧ IsS75 w0 w' g s0_0 r5 r6 r7 r8 r9 r10 r11 r12 r13 r14 ∧ Below w0.heap.size w0 w' ∧ KeepBut w w' g none := by
  intro g s0_0 s0_1 s0_2 s0_3 s0_4 s0_5 s0_6 s0_7 s0_8 s0_9 s0_10 r1 r2 r3 r4 r5 r6 r7 r8 r9 r10 r11 r12 r13 r14 w0 w hI hB h
  cases k with
  | zero => exact absurd h (by simp [expr_parser_within.f])
  | succ k =>
  simp only [expr_parser_within.f] at h
  have hu28 := Try.underlying28
  have HI0 := Aside0.mk hI
  have HK := Aside0.mk (KeepBut.refl w g none)
  have HL := Aside0.mk hB.size
  clear hI
  have HW0 := Aside0.mk hB.size
  have HB := Aside0.mk hB
  clear hB
  have H : (if s0_8 > 40 then ((expr_parser_wrong.f s0_0 s0_1 s0_2 s0_3 s0_4 s0_5 s0_6 s0_7 s0_8 s0_9 s0_10 3).bind fun bt233 => (expr_parser_within.j0 k s0_0 bt233.1 bt233.2.1 bt233.2.2.1 bt233.2.2.2.1 bt233.2.2.2.2.1 bt233.2.2.2.2.2.1 bt233.2.2.2.2.2.2.1 bt233.2.2.2.2.2.2.2.1 bt233.2.2.2.2.2.2.2.2.1 bt233.2.2.2.2.2.2.2.2.2)) else (expr_parser_within.j0 k s0_0 s0_1 s0_2 s0_3 s0_4 s0_5 s0_6 s0_7 s0_8 s0_9 s0_10)) = some (r1, r2, r3, r4, r5, r6, r7, r8, r9, r10, r11, r12, r13, r14) := h
  clear h
  have HC2 := Aside0.mk H
  clear H
  go_enter Try.func92, Try.ntmps92
  go_upto_if 8 with (((with_reducible refine gate_dst (N := 2) rfl ?_); refine box_event ?hg (N := 2) ?hd (cs := #[.int .i64 0, .int .i64 0, .int .i64 0, .slice none 0 0]) (t := 28) ?hr ?_; (case hd => rfl); (case hg => rfl); (case hr => (go_simp; done)); intro gb232 hg w3 hbox hb; have n0_ := Aside0.mk (IsS75.below HI0.out hb); have n1_ := Aside0.mk (KeepBut.trans HK.out (KeepBut.of_below hb g none) (.inl rfl)); have n2_ := Aside0.mk (below_step HB.out hb); have n3_ := Aside0.mk (hbox); have n4_ := Aside0.mk ((by rw [hg]; exact (keep_size HK.out) : w.heap.size ≤ gb232)); have n5_ := Aside0.mk ((Nat.le_trans HW0.out (by rw [hg]; exact (keep_size HK.out) : w.heap.size ≤ gb232) : w0.heap.size ≤ gb232)); have n6_ := Aside0.mk ((by rw [hg]; exact Nat.ne_of_lt (IsS75.lt HI0.out) : g ≠ gb232)); have n7_ := Aside0.mk ((by rw [hg]; exact Nat.ne_of_gt (IsS75.lt HI0.out) : gb232 ≠ g)); clear HI0 HK HB; have HI0 := n0_; have HK := n1_; have HB := n2_; have BK232 := n3_; have GW232 := n4_; have GE232 := n5_; have NB0_232 := n6_; have NB232_0 := n7_; clear n0_ n1_ n2_ n3_ n4_ n5_ n6_ n7_ hb hbox hg; obtain ⟨ASz4_0, cSz4_0, HGz4, hgz4, HSz4_0, HDz4_0⟩ := HI0.out; obtain ⟨hcz4_0, hcz4_1, hcz4_2, hcz4_3, hcz4_4, hcz4_5, hcz4_6, hcz4_7, hcz4_8, hcz4_9, hcz4_10, -, hfz4_1, hfz4_2, hfz4_3, hfz4_4, hfz4_5, hfz4_6, hfz4_7, hfz4_8, hfz4_9, hfz4_10⟩ := Go.Proofs.YtodbnnfiadcbaaaH.cells11 HGz4; clear HGz4 hgz4))
  (skip)
  go_cut [] (fun wc => ∃ (kq : Nat) (x1001_1 : ByteArray) (x1002_1 : Int) (x1003_1 : Int) (x1004_1 : Int) (x1005_1 : ByteArray) (x1006_1 : Int) (x1007_1 : Int) (x1008_1 : Int) (x1009_1 : Int) (x1010_1 : Int), Aside0 (expr_parser_within.j0 kq s0_0 x1001_1 x1002_1 x1003_1 x1004_1 x1005_1 x1006_1 x1007_1 x1008_1 x1009_1 x1010_1 = some (r1, r2, r3, r4, r5, r6, r7, r8, r9, r10, r11, r12, r13, r14)) ∧ Aside0 (kq ≤ k) ∧ Aside0 (wc.heap[gb232]? = some (.cells #[.int .i64 0, .int .i64 0, .int .i64 0, (.slice none 0 0)] 28 (0, 0))) ∧ Aside0 (IsS75 w0 wc g s0_0 x1001_1 x1002_1 x1003_1 x1004_1 x1005_1 x1006_1 x1007_1 x1008_1 x1009_1 x1010_1) ∧ Aside0 (KeepBut w wc g none) ∧ Aside0 (Below w0.heap.size w0 wc))
  case first =>
    have H := HC2.out
    clear HC2
    by_cases c5 : s0_8 > 40
    · rw [if_pos c5] at H
      have c5b0 : decide (40 < s0_8) = true := decide_eq_true c5
      clear c5
      (rw [c5b0])
      replace H := Option.bind_eq_some_iff.mp H
      obtain ⟨⟨t233, t234, t235, t236, t237, t238, t239, t240, t241, t242⟩, A60, H⟩ := H
      try dsimp only at H
      have A6 := Aside0.mk A60
      clear A60
      have H' := Aside0.mk H
      clear H
      go_wp2_with (((with_reducible refine gate_callee (f := 42) rfl ?_); refine goesL_ (some 10) rfl rfl Try.func42 (by kernel_rfl) rfl #[.pointer (some ⟨g, 0, none⟩), .int .i64 3] rfl (by (simp only [List.map_toArray, List.map_cons, List.map_nil]); rfl) ?_; (with_reducible refine (expr_parser_wrong.calls g s0_0 s0_1 s0_2 s0_3 s0_4 s0_5 s0_6 s0_7 s0_8 s0_9 s0_10 3 t233 t234 t235 t236 t237 t238 t239 t240 t241 t242 w0 _ HI0.out HB.out A6.out).mono ?_); rintro e w7 ⟨rfl, hi, hb, hk⟩; refine ⟨_, rfl, ?_⟩; have n0_ := Aside0.mk (KeepBut.blk hk BK232.out NB232_0.out (by simp)); have n1_ := Aside0.mk (KeepBut.trans HK.out hk (.inl rfl)); have n2_ := Aside0.mk (hb); have n3_ := Aside0.mk (hi); clear BK232 HK HB HI0; have BK232 := n0_; have HK := n1_; have HB := n2_; have HI0 := n3_; clear n0_ n1_ n2_ n3_ hb hk hi))
      go_meet
      case rel => exact ⟨_, (t233), (t234), (t235), (t236), (t237), (t238), (t239), (t240), (t241), (t242), H', ⟨by omega⟩, ⟨by exact BK232.out⟩, ⟨by with_reducible exact HI0.out⟩, ⟨by with_reducible exact HK.out⟩, ⟨by with_reducible exact HB.out⟩⟩
    · rw [if_neg c5] at H
      have c5b0 : decide (40 < s0_8) = false := decide_eq_false c5
      clear c5
      (rw [c5b0])
      have H' := Aside0.mk H
      clear H
      go_wp2
      go_meet
      case rel => exact ⟨_, (s0_1), (s0_2), (s0_3), (s0_4), (s0_5), (s0_6), (s0_7), (s0_8), (s0_9), (s0_10), H', ⟨by omega⟩, ⟨by exact BK232.out⟩, ⟨by with_reducible exact HI0.out⟩, ⟨by with_reducible exact HK.out⟩, ⟨by with_reducible exact HB.out⟩⟩
  case rest =>
    clear HC2 hcz4_0 hcz4_1 hcz4_10 hcz4_2 hcz4_3 hcz4_4 hcz4_5 hcz4_6 hcz4_7 hcz4_8 hcz4_9 hfz4_1 hfz4_10 hfz4_2 hfz4_3 hfz4_4 hfz4_5 hfz4_6 hfz4_7 hfz4_8 hfz4_9
    obtain ⟨kq, x1001_1, x1002_1, x1003_1, x1004_1, x1005_1, x1006_1, x1007_1, x1008_1, x1009_1, x1010_1, HA, HJ1, BK232, HI0, HK, HB⟩ := hcut
    cases kq with
    | zero => exact absurd HA.out (by simp [expr_parser_within.j0])
    | succ kj1 =>
      have H := HA.out
      clear HA
      simp only [expr_parser_within.j0] at H
      by_cases c8 : x1009_1 = 0
      · rw [if_pos c8] at H
        have c8b0 : (x1009_1 == 0) = true := beq_iff_eq.mpr c8
        have c8b1 : (x1009_1 != 0) = false := bne_eq_false_iff_eq.mpr c8
        clear c8
        replace H := Option.bind_eq_some_iff.mp H
        obtain ⟨⟨t243, t244, t245, t246, t247, t248, t249, t250, t251, t252⟩, A90, H⟩ := H
        try dsimp only at H
        have A9 := Aside0.mk A90
        clear A90
        replace H := Option.bind_eq_some_iff.mp H
        obtain ⟨⟨t253, t254, t255, t256, t259, t260, t261, t262, t263, t264, t265, t266, t267, t268⟩, A100, H⟩ := H
        try dsimp only at H
        have A10 := Aside0.mk A100
        clear A100
        simp only [Option.some.injEq, Prod.mk.injEq] at H
        obtain ⟨rfl, rfl, rfl, rfl, rfl, rfl, rfl, rfl, rfl, rfl, rfl, rfl, rfl, rfl⟩ := H
        obtain ⟨ASz11_0, cSz11_0, HGz11, hgz11, HSz11_0, HDz11_0⟩ := HI0.out
        obtain ⟨hcz11_0, hcz11_1, hcz11_2, hcz11_3, hcz11_4, hcz11_5, hcz11_6, hcz11_7, hcz11_8, hcz11_9, hcz11_10, -, hfz11_1, hfz11_2, hfz11_3, hfz11_4, hfz11_5, hfz11_6, hfz11_7, hfz11_8, hfz11_9, hfz11_10⟩ := Go.Proofs.YtodbnnfiadcbaaaH.cells11 HGz11
        clear HGz11 hgz11
        go_wp2_with (first | ((with_reducible refine gate_callee (f := 40) rfl ?_); refine goesL_ (some 25) rfl rfl Try.func40 (by kernel_rfl) rfl #[.pointer (some ⟨g, 0, none⟩)] rfl (by (simp only [List.map_toArray, List.map_cons, List.map_nil]); rfl) ?_; (with_reducible refine (expr_parser_next.calls kj1 g s0_0 x1001_1 x1002_1 x1003_1 x1004_1 x1005_1 x1006_1 x1007_1 (wrap64 (x1008_1 + 1)) x1009_1 x1010_1 t243 t244 t245 t246 t247 t248 t249 t250 t251 t252 w0 _ ?side1 ?side2 A9.out).mono ?_); (case side1 => repeat ((with_reducible first | exact HI0.out | apply IsS75.set_8))); (case side2 => repeat ((with_reducible first | exact HB.out | refine below_set ?_ (IsS75.ge HI0.out)))); rintro e w12 ⟨rfl, hi, hb, hk⟩; refine ⟨_, rfl, ?_⟩; have n0_ := Aside0.mk (KeepBut.blk hk (g' := gb232) (o := .cells #[.int .i64 0, .int .i64 0, .int .i64 0, .slice none 0 0] 28 (0, 0)) (by refine blk_far ?_ NB232_0.out _; exact BK232.out) NB232_0.out (by simp)); have n1_ := Aside0.mk (KeepBut.trans (by repeat ((with_reducible first | exact HK.out | apply KeepBut.set_))) hk (.inl rfl)); have n2_ := Aside0.mk (hb); have n3_ := Aside0.mk (hi); clear BK232 HK HB HI0; have BK232 := n0_; have HK := n1_; have HB := n2_; have HI0 := n3_; clear n0_ n1_ n2_ n3_ hb hk hi) | ((with_reducible refine gate_callee (f := 41) rfl ?_); refine goesL_ (some 27) rfl rfl Try.func41 (by kernel_rfl) rfl #[.pointer (some ⟨g, 0, none⟩)] rfl (by (simp only [List.map_toArray, List.map_cons, List.map_nil]); rfl) ?_; (with_reducible refine (ih41 kj1 (by have := HJ1.out; omega) g s0_0 t243 t244 t245 t246 t247 t248 t249 t250 t251 t252 t253 t254 t255 t256 t259 t260 t261 t262 t263 t264 t265 t266 t267 t268 w0 _ HI0.out HB.out A10.out).mono ?_); rintro e w13 ⟨v257, rfl, ho0, hi, hb, hk⟩; refine ⟨_, rfl, ?_⟩; have n0_ := Aside0.mk (KeepBut.blk hk BK232.out NB232_0.out (by simp)); have n1_ := Aside0.mk (Kd.V_lower (Kd.V_mono (ok' := fun k_ => (w.heap.size ≤ k_) ∧ k_ ≠ gb232 ∧ k_ ≠ g) ho0 (fun k_ hk_ => ⟨(Nat.le_trans (keep_size HK.out) hk_), (Kd.freshB BK232.out k_ hk_), (IsS75.fresh HI0.out k_ hk_)⟩)) (keep_size HK.out)); have n2_ := Aside0.mk (KeepBut.trans HK.out hk (.inl rfl)); have n3_ := Aside0.mk (hb); have n4_ := Aside0.mk (hi); clear BK232 HK HB HI0; have BK232 := n0_; have HO258 := n1_; have HK := n2_; have HB := n3_; have HI0 := n4_; clear n0_ n1_ n2_ n3_ n4_ hb hk hi ho0) | ((with_reducible refine gate_dst (N := 3) rfl ?_); refine box_event ?hg (N := 3) ?hd (cs := #[.int .i64 0, .int .i64 0, .int .i64 0, .slice none 0 0]) (t := 28) ?hr ?_; (case hd => rfl); (case hg => rfl); (case hr => (go_simp; done)); intro gb269 hg w14 hbox hb; have n0_ := Aside0.mk (Kd.V_below (Kd.V_elderB HO258.out gb269 (Nat.le_of_eq hg.symm)) hb); have n1_ := Aside0.mk (blk_below BK232.out hb); have n2_ := Aside0.mk (IsS75.below HI0.out hb); have n3_ := Aside0.mk (KeepBut.trans HK.out (KeepBut.of_below hb g none) (.inl rfl)); have n4_ := Aside0.mk (below_step HB.out hb); have n5_ := Aside0.mk (hbox); have n6_ := Aside0.mk ((by rw [hg]; exact (keep_size HK.out) : w.heap.size ≤ gb269)); have n7_ := Aside0.mk ((Nat.le_trans HW0.out (by rw [hg]; exact (keep_size HK.out) : w.heap.size ≤ gb269) : w0.heap.size ≤ gb269)); have n8_ := Aside0.mk ((by rw [hg]; exact Nat.ne_of_lt (blk_lt BK232.out) : gb232 ≠ gb269)); have n9_ := Aside0.mk ((by rw [hg]; exact Nat.ne_of_gt (blk_lt BK232.out) : gb269 ≠ gb232)); have n10_ := Aside0.mk ((by rw [hg]; exact Nat.ne_of_lt (IsS75.lt HI0.out) : g ≠ gb269)); have n11_ := Aside0.mk ((by rw [hg]; exact Nat.ne_of_gt (IsS75.lt HI0.out) : gb269 ≠ g)); clear HO258 BK232 HI0 HK HB; have HO258 := n0_; have BK232 := n1_; have HI0 := n2_; have HK := n3_; have HB := n4_; have BK269 := n5_; have GW269 := n6_; have GE269 := n7_; have NB232_269 := n8_; have NB269_232 := n9_; have NB0_269 := n10_; have NB269_0 := n11_; clear n0_ n1_ n2_ n3_ n4_ n5_ n6_ n7_ n8_ n9_ n10_ n11_ hb hbox hg; have hnb15 := NB269_232.out; have hnc15 := NB232_269.out; have hnb16 := NB269_0.out; have hnc16 := NB0_269.out; obtain ⟨hcz17_0, hcz17_1, hcz17_2, hcz17_3, hfz17_0, hfz17_1, hfz17_2, hfz17_3⟩ := Go.Proofs.YtodbnnfiadcbaaaH.cells4 BK269.out; obtain ⟨Ao18, co18, eo18⟩ := Kd.V_slice HO258.out; subst eo18; obtain ⟨ASz19_0, cSz19_0, HGz19, hgz19, HSz19_0, HDz19_0⟩ := HI0.out; obtain ⟨hcz19_0, hcz19_1, hcz19_2, hcz19_3, hcz19_4, hcz19_5, hcz19_6, hcz19_7, hcz19_8, hcz19_9, hcz19_10, -, hfz19_1, hfz19_2, hfz19_3, hfz19_4, hfz19_5, hfz19_6, hfz19_7, hfz19_8, hfz19_9, hfz19_10⟩ := Go.Proofs.YtodbnnfiadcbaaaH.cells11 HGz19; clear HGz19 hgz19; have hnb20 := NB232_0.out; have hnc20 := NB0_232.out; obtain ⟨hcz21_0, hcz21_1, hcz21_2, hcz21_3, hfz21_0, hfz21_1, hfz21_2, hfz21_3⟩ := Go.Proofs.YtodbnnfiadcbaaaH.cells4 BK232.out))
        refine bodyPost_ret (results_cell_row rfl _ _ gb232 28 #[.int .i64 t253, .int .i64 t254, .int .i64 t255, .slice Ao18 t256.length co18] (0, 0) _ rfl (by refine blk_put (cs := #[.int .i64 t253, .int .i64 t254, .int .i64 t255, .slice none 0 0]) ?_ 3 _ rfl; refine blk_put (cs := #[.int .i64 t253, .int .i64 t254, .int .i64 0, .slice none 0 0]) ?_ 2 _ rfl; refine blk_put (cs := #[.int .i64 t253, .int .i64 0, .int .i64 0, .slice none 0 0]) ?_ 1 _ rfl; refine blk_put (cs := #[.int .i64 0, .int .i64 0, .int .i64 0, .slice none 0 0]) ?_ 0 _ rfl; refine blk_far ?_ NB232_0.out _; refine blk_far ?_ NB232_269.out _; refine blk_far ?_ NB232_269.out _; refine blk_far ?_ NB232_269.out _; refine blk_far ?_ NB232_269.out _; exact BK232.out) Try.underlying28 rfl (by kernel_rfl)) rfl ?_
        exact ⟨_, by rfl, by exact Kd.V_mono (Kd.V_far (p := ⟨gb232, 3, none⟩) (Kd.V_far (p := ⟨gb232, 2, none⟩) (Kd.V_far (p := ⟨gb232, 1, none⟩) (Kd.V_far (p := ⟨gb232, 0, none⟩) (Kd.V_far (p := ⟨g, 8, none⟩) (Kd.V_far (p := ⟨gb269, 3, none⟩) (Kd.V_far (p := ⟨gb269, 2, none⟩) (Kd.V_far (p := ⟨gb269, 1, none⟩) (Kd.V_far (p := ⟨gb269, 0, none⟩) (Kd.V_mono (Kd.V_mono (Kd.V_mono HO258.out (fun k_ hk => (⟨hk, hk.2⟩ : _ ∧ k_ ≠ gb269))) (fun k_ hk => (⟨hk, hk.1.1.2.2⟩ : _ ∧ k_ ≠ g))) (fun k_ hk => (⟨hk, hk.1.1.1.2.1⟩ : _ ∧ k_ ≠ gb232))) (fun _ hk => hk.1.1.2) (.int .i64 t253)) (fun _ hk => hk.1.1.2) (.int .i64 t254)) (fun _ hk => hk.1.1.2) (.int .i64 t255)) (fun _ hk => hk.1.1.2) (.slice Ao18 t256.length co18)) (fun _ hk => by exact hk.1.2) (.int .i64 (wrap64 (t266 - 1)))) (fun _ hk => hk.2) (.int .i64 t253)) (fun _ hk => hk.2) (.int .i64 t254)) (fun _ hk => hk.2) (.int .i64 t255)) (fun _ hk => hk.2) (.slice Ao18 t256.length co18)) (fun _ hk => hk.1.1.1.1.1), by repeat ((with_reducible first | exact HI0.out | apply IsS75.set_8 | apply IsS75.far_ (hne := NB0_232.out) | apply IsS75.far_ (hne := NB0_269.out))), by repeat ((with_reducible first | exact HB.out | refine below_set ?_ (IsS75.ge HI0.out) | refine below_set ?_ GE232.out | refine below_set ?_ GE269.out)), by repeat ((with_reducible first | exact HK.out | apply KeepBut.set_ | refine keep_far ?_ GW232.out _ | refine keep_far ?_ GW269.out _))⟩
      · rw [if_neg c8] at H
        have c8b0 : (x1009_1 == 0) = false := beq_eq_false_iff_ne.mpr c8
        have c8b1 : (x1009_1 != 0) = true := bne_iff_ne.mpr c8
        simp only [Option.some.injEq, Prod.mk.injEq] at H
        obtain ⟨rfl, rfl, rfl, rfl, rfl, rfl, rfl, rfl, rfl, rfl, rfl, rfl, rfl, rfl⟩ := H
        obtain ⟨ASz22_0, cSz22_0, HGz22, hgz22, HSz22_0, HDz22_0⟩ := HI0.out
        obtain ⟨hcz22_0, hcz22_1, hcz22_2, hcz22_3, hcz22_4, hcz22_5, hcz22_6, hcz22_7, hcz22_8, hcz22_9, hcz22_10, -, hfz22_1, hfz22_2, hfz22_3, hfz22_4, hfz22_5, hfz22_6, hfz22_7, hfz22_8, hfz22_9, hfz22_10⟩ := Go.Proofs.YtodbnnfiadcbaaaH.cells11 HGz22
        clear HGz22 hgz22
        have hnb23 := NB232_0.out
        have hnc23 := NB0_232.out
        obtain ⟨hcz24_0, hcz24_1, hcz24_2, hcz24_3, hfz24_0, hfz24_1, hfz24_2, hfz24_3⟩ := Go.Proofs.YtodbnnfiadcbaaaH.cells4 BK232.out
        go_wp2
        refine bodyPost_ret (results_cell_row rfl _ _ gb232 28 #[.int .i64 0, .int .i64 0, .int .i64 0, .slice none 0 0] (0, 0) _ rfl (by refine blk_put (cs := #[.int .i64 0, .int .i64 0, .int .i64 0, .slice none 0 0]) ?_ 3 _ rfl; refine blk_put (cs := #[.int .i64 0, .int .i64 0, .int .i64 0, .slice none 0 0]) ?_ 2 _ rfl; refine blk_put (cs := #[.int .i64 0, .int .i64 0, .int .i64 0, .slice none 0 0]) ?_ 1 _ rfl; refine blk_put (cs := #[.int .i64 0, .int .i64 0, .int .i64 0, .slice none 0 0]) ?_ 0 _ rfl; exact BK232.out) Try.underlying28 rfl (by kernel_rfl)) rfl ?_
        exact ⟨_, by rfl, (Kd.V_nil _ _ _ _ _), by repeat ((with_reducible first | exact HI0.out | apply IsS75.far_ (hne := NB0_232.out))), by repeat ((with_reducible first | exact HB.out | refine below_set ?_ GE232.out)), by repeat ((with_reducible first | exact HK.out | refine keep_far ?_ GW232.out _))⟩

end Go.Proofs.Ytodbnnfiadcbaaa.P
