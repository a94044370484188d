/- Words of this session's own beside the print's: a row of strings' cells; xs[:n:n] of a row of one's own; a scope with one label, told as a loop. -/
import Derived.Test.YtiibfkjfanglbaaShelf
import Derived.Test.YtiibfkjfanglbaaWWordsMoreInvWords
import Derived.ScopeJumps
import Derived.Deep.LoopGhost
import Derived.Laws.Slices
namespace Go.Proofs.YtiibfkjfanglbaaH
open Go.RowKit Go.Proofs.YtiibfkjfanglbaaW.PrintWords Go.Proofs.YtiibfkjfanglbaaW.PrintLast Go.Proofs.YtiibfkjfanglbaaW.PrintMore
theorem strs_cells {w : World} {A : Option Addr} {xs : List ByteArray} (h : Kd.C Kd.string w A xs.length xs) (h0 : 0 < xs.length) :
    ∃ bk o, A = some ⟨bk, o, none⟩ ∧ (∀ (j : Nat) x, xs[j]? = some x → w.cell? ⟨bk, o + j, none⟩ = some (.string x)) ∧ bk < w.heap.size := by
  obtain ⟨_, _, hp⟩ := h
  obtain ⟨ad, e0, hc⟩ := hp h0
  clear hp
  subst e0
  obtain ⟨b, o, s⟩ := ad
  obtain ⟨c, hl, rfl, hi⟩ := hc 0 _ (List.getElem?_eq_getElem h0)
  have h1 := hi 0 _ rfl
  have hs : s = none := by
    cases s with
    | none => rfl
    | some q =>
      simp only [Nat.zero_mul, Nat.add_zero, Addr.add, if_true, World.cell?, Option.isSome_some] at h1
      split at h1 <;> simp at h1
  subst hs
  refine ⟨b, o, rfl, fun j x hx => ?_, ?_⟩
  · obtain ⟨c, hl, rfl, hi⟩ := hc j x hx
    have h2 := hi 0 _ rfl
    have e : (⟨b, o, none⟩ : Addr).add (j * Kd.string.sz + 0) = ⟨b, o + j, none⟩ := by
      show (⟨b, o, none⟩ : Addr).add (j * 1 + 0) = ⟨b, o + j, none⟩
      unfold Addr.add
      by_cases hj : j = 0
      · subst hj; simp
      · simp [hj]
    rw [e] at h2
    exact h2
  · have := World.block_lt_of_cell? w _ h1
    simpa [Addr.add] using this
theorem setCell_drewN {w : World} (n : Nat) (a : Addr) (v : Value) : (w.drewN n).setCell a v = (w.setCell a v).drewN n := rfl
/-- A cell behind a store, without a condition. -/
theorem cell_setCell_if {w : World} (g o o' g' : Nat) (v : Value) : (w.setCell ⟨g, o, none⟩ v).cell? ⟨g', o', none⟩ = if g = g' ∧ o = o' then (w.cell? ⟨g', o', none⟩).map (fun _ => v) else w.cell? ⟨g', o', none⟩ := by
  by_cases h : g = g' ∧ o = o'
  · rw [if_pos h]
    obtain ⟨rfl, rfl⟩ := h
    cases hc : w.cell? ⟨g, o, none⟩ with
    | none =>
      simp only [Option.map_none]
      unfold World.cell? at hc ⊢
      unfold World.setCell
      simp only [Array.getElem?_modify, if_true]
      cases hb : w.heap[g]? with
      | none => simp
      | some ob =>
        cases ob with
        | cells c e f =>
          simp only [hb, Option.isSome_none, Bool.false_eq_true, if_false, Option.map_some] at hc ⊢
          rw [Array.getElem?_setIfInBounds]
          simp at hc ⊢
          omega
        | _ => simp
    | some u => rw [World.cell?_setCell_same _ _ _ hc]; rfl
  · rw [if_neg h, World.cell?_setCell_other]
    intro e
    injection e with h1 h2
    exact h ⟨h1, h2⟩
/-- xs[:n:n] of a row: its capacity is its length. -/
theorem cut_max {P : Program} (t e : TypeId) (kh : IntKind) {i : TypeInfo} (ht : P.underlying t = some (.slice e)) (hi : P.info? e = some i) (A : Option Addr) (n c : Nat) (j : Int) (h0 : 0 ≤ j) (hm : j ≤ n) (hc : n ≤ c) :
    ∀ W : World, (Instr.slice t (.slice A n c) none (some (.int kh j)) (some (.int kh j))).run P W = .ok (.slice A j.toNat j.toNat) W := by
  intro W
  have hel : P.elem t = e := by simp [Program.elem, ht]
  have hu : P.underlying t = some (.slice (P.elem t)) := by rw [hel]; exact ht
  have ha : (A.map fun x => x.add 0) = A := by cases A <;> simp [Addr.add]
  rw [run_slice_hm W t A n c hu kh kh j j h0 (Int.le_refl _) (by omega), hel]
  simp [sizeOf, typeInfo, hi, sliced, Result.andThen, ha]
end Go.Proofs.YtiibfkjfanglbaaH
namespace Go
section
variable {P : Program} {a : Act} {w : World} {Q : Exit → Act → World → Prop}
theorem Exit.jump_normal_Ytiibfkjfanglbaa (l : Nat) (J : Act → World → Prop) : Exit.jump l J Q .normal a w = Q .normal a w := rfl
theorem Exit.jump_exit_Ytiibfkjfanglbaa (l : Nat) (J : Act → World → Prop) (id : Nat) : Exit.jump l J Q (.exit id) a w = Q (.exit id) a w := rfl
theorem Exit.jump_ret_Ytiibfkjfanglbaa (l : Nat) (J : Act → World → Prop) : Exit.jump l J Q .ret a w = Q .ret a w := rfl
theorem Exit.jump_panic_Ytiibfkjfanglbaa (l : Nat) (J : Act → World → Prop) (ch : List PanicEntry) : Exit.jump l J Q (.panic ch) a w = Q (.panic ch) a w := rfl
/-- A scope with one label, its code behind the label walked once: an invariant that bears a number, which every way back to the label lowers. -/
theorem wp_scope_ghost_Ytiibfkjfanglbaa {S B : Code} (l : Nat) (I : Nat → Act → World → Prop) (hf : findLabel S l = some (.seq .skip B))
    (round : ∀ n a w, I n a w → ∀ (J : Nat → Act → World → Prop) (K : Act → World → Prop), (∀ k a' w', I k a' w' → J k a' w') → (∀ a' w', Handed J n a' w' → K a' w') → B.wp P (Exit.jump l K Q) a w)
    (first : Go.Proofs.YtiibfkjfanglbaaW.PrintWords.Aside0 (∀ n a w, I n a w → B.wp P (Exit.jump l (fun a w => ∃ n, I n a w) Q) a w) → S.wp P (Exit.jump l (fun a w => ∃ n, I n a w) Q) a w) : (Code.scope S).wp P Q a w := by
  refine wp_scope_jumps l (fun a w => ∃ n, I n a w) (fun a w => leastOf (fun n => I n a w)) hf (first ⟨fun n a w h => ?_⟩) ?_
  · exact round n a w h I _ (fun _ _ _ q => q) fun a' w' q => by
      obtain ⟨n', _, h'⟩ := q
      exact ⟨n', h'⟩
  · intro a w hI
    refine wp_seq (wp_skip ?_)
    exact round _ a w (leastOf_spec hI).1 I _ (fun _ _ _ q => q) fun a' w' q => by
      obtain ⟨n', hlt, hI'⟩ := q
      exact ⟨⟨n', hI'⟩, Nat.lt_of_le_of_lt ((leastOf_spec ⟨n', hI'⟩).2 n' hI') hlt⟩
end
end Go
