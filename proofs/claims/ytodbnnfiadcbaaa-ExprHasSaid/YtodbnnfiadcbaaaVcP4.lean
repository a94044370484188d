/- Plain laws: no program in sight. -/
import Derived.Test.YtodbnnfiadcbaaaVcP1
set_option linter.unusedVariables false
set_option linter.unusedSimpArgs false
set_option linter.unusedSectionVars false
namespace Go.Proofs.YtodbnnfiadcbaaaL
open Go.RowKit Go.Proofs.Ytodbnnfiadcbaaa.P Go.Proofs.YtodbnnfiadcbaaaW.PrintWords Go.Proofs.YtodbnnfiadcbaaaW.PrintLast Go.Proofs.YtodbnnfiadcbaaaW.PrintMore
set_option linter.unusedSimpArgs false
set_option linter.unusedVariables false
theorem tsizeL_snoc (x : S28) : ∀ xs : List S28, tsizeL (xs ++ [x]) = tsizeL xs + tsize x
  | [] => by simp [tsizeL]
  | y :: ys => by rw [List.cons_append, tsizeL, tsizeL, tsizeL_snoc x ys]; omega
section
variable (l : List S56) (s : List UInt8)
end
/-! ### rounds -/
abbrev PR := Int × Int × Int × List S28 × PS
def repW (k : Nat) (l : List S56) (σ : PS) : Option PR := expr_parser_rep.f k l σ.1 σ.2.1 σ.2.2.1 σ.2.2.2.1 σ.2.2.2.2.1 σ.2.2.2.2.2.1 σ.2.2.2.2.2.2.1 σ.2.2.2.2.2.2.2.1 σ.2.2.2.2.2.2.2.2.1 σ.2.2.2.2.2.2.2.2.2
def catL (k : Nat) (acc : List S28) (l : List S56) (σ : PS) : Option PR := expr_parser_cat.l0 k acc l σ.1 σ.2.1 σ.2.2.1 σ.2.2.2.1 σ.2.2.2.2.1 σ.2.2.2.2.2.1 σ.2.2.2.2.2.2.1 σ.2.2.2.2.2.2.2.1 σ.2.2.2.2.2.2.2.2.1 σ.2.2.2.2.2.2.2.2.2
def orL (k : Nat) (acc : List S28) (l : List S56) (σ : PS) : Option PR := expr_parser_or.l0 k acc l σ.1 σ.2.1 σ.2.2.1 σ.2.2.2.1 σ.2.2.2.2.1 σ.2.2.2.2.2.1 σ.2.2.2.2.2.2.1 σ.2.2.2.2.2.2.2.1 σ.2.2.2.2.2.2.2.2.1 σ.2.2.2.2.2.2.2.2.2
def orJ (k : Nat) (acc : List S28) (b : Bool) (l : List S56) (σ : PS) : Option PR := expr_parser_or.j1 k acc b l σ.1 σ.2.1 σ.2.2.1 σ.2.2.2.1 σ.2.2.2.2.1 σ.2.2.2.2.2.1 σ.2.2.2.2.2.2.1 σ.2.2.2.2.2.2.2.1 σ.2.2.2.2.2.2.2.2.1 σ.2.2.2.2.2.2.2.2.2
def isB (σ : PS) (c : Int) : Bool := σ.2.2.2.1 == 3 && ((σ.2.2.2.2.1.toList == ([] : List UInt8) && (σ.2.2.2.2.2.1 == 0)) && (σ.2.2.2.2.2.2.1 == c))
def errOf (σ : PS) : Int := σ.2.2.2.2.2.2.2.2.1
def res (x : S28) (σ : PS) : PR := (x.f0, x.f1, x.f2, x.f3, σ)
def exOf (r : PR) : S28 := ⟨r.1, r.2.1, r.2.2.1, r.2.2.2.1⟩
def begB (σ : PS) : Bool := isB σ 48 || isB σ 49 || isB σ 40 || σ.2.2.2.1 == 4 || σ.2.2.2.1 == 5
theorem is_eq (l : List S56) (a : ByteArray) (b c d : Int) (e : ByteArray) (f g h i j ch : Int) : expr_parser_is.f l a b c d e f g h i j ch = some (isB (a, b, c, d, e, f, g, h, i, j) ch, a, b, c, d, e, f, g, h, i, j) := rfl
theorem begins_eq (l : List S56) (a : ByteArray) (b c d : Int) (e : ByteArray) (f g h i j : Int) : expr_parser_begins.f l a b c d e f g h i j = some (begB (a, b, c, d, e, f, g, h, i, j), a, b, c, d, e, f, g, h, i, j) := by
  unfold expr_parser_begins.f begB
  simp only [is_eq, Option.bind_some]
  cases isB (a, b, c, d, e, f, g, h, i, j) 48 <;> cases isB (a, b, c, d, e, f, g, h, i, j) 49 <;> cases isB (a, b, c, d, e, f, g, h, i, j) 40 <;> simp
  by_cases h4 : d = 4 <;> simp [h4]
theorem several_eq (k : Int) (xs : List S28) (h : xs ≠ []) : expr_several.f k xs = some ((severalT k xs).f0, (severalT k xs).f1, (severalT k xs).f2, (severalT k xs).f3) := by
  unfold expr_several.f severalT
  cases xs with
  | nil => exact absurd rfl h
  | cons x t =>
    cases t with
    | nil => simp [rd_T28]
    | cons y ys =>
      rw [if_neg (by simp only [List.length_cons]; omega), Int.toNat_natCast, List.take_length]
section
variable (k : Nat) (l : List S56) (σ : PS)
theorem catL_step (acc : List S28) (h : acc ≠ []) : catL (k + 1) acc l σ = if errOf σ = 0 then (if begB σ = true then (repW k l σ).bind fun r => if acc.length < 2932031007402 then catL k (acc ++ [exOf r]) l r.2.2.2.2 else none else some (res (severalT 5 acc) σ)) else some (res (severalT 5 acc) σ) := by
  unfold catL
  rw [expr_parser_cat.l0]
  simp only [begins_eq, Option.bind_some, several_eq 5 acc h]
  rfl
theorem orL_step (acc : List S28) : orL (k + 1) acc l σ = if errOf σ = 0 then orJ k acc (isB σ 124) l σ else orJ k acc false l σ := by
  unfold orL
  rw [expr_parser_or.l0]
  simp only [is_eq, Option.bind_some]
  rfl
end
end Go.Proofs.YtodbnnfiadcbaaaL
namespace Go.Proofs.YtodbnnfiadcbaaaL
open Go.RowKit Go.Proofs.Ytodbnnfiadcbaaa.P Go.Proofs.YtodbnnfiadcbaaaW.PrintWords Go.Proofs.YtodbnnfiadcbaaaW.PrintLast Go.Proofs.YtodbnnfiadcbaaaW.PrintMore
set_option linter.unusedSimpArgs false
set_option linter.unusedVariables false
section
variable {l : List S56} {s : ByteArray}
/-! what comes out -/
def Out (s : ByteArray) (d : Int) (F : Nat → Option PR) : Rs → Prop
  | .ok v g => g ≤ s.size ∧ Ev F (res v (st s g d 0 0))
  | .err e p => e ≠ 0 ∧ ∃ x g, g ≤ s.size ∧ Ev F (res x (st s g d e (p : Int)))
theorem Out.step {d : Int} {F G : Nat → Option PR} {r : Rs} (h : ∀ k, F (k + 1) = G k) (o : Out s d G r) : Out s d F r := by
  cases r with
  | ok v g => exact ⟨o.1, Ev.step h o.2⟩
  | err e p => obtain ⟨o1, x, g, o2, o3⟩ := o; exact ⟨o1, x, g, o2, Ev.step h o3⟩
theorem Out.congr {d : Int} {F G : Nat → Option PR} {r : Rs} (h : ∀ k, F k = G k) (o : Out s d G r) : Out s d F r := by
  have : F = G := funext h
  rw [this]; exact o
theorem Out.bind {α : Type} {d : Int} {F : Nat → Option α} {C : Nat → α → Option PR} {a : α} {r : Rs} (h : Ev F a) (o : Out s d (fun k => C k a) r) : Out s d (fun k => (F k).bind (C k)) r := by
  cases r with
  | ok v g => exact ⟨o.1, Ev.bind h o.2⟩
  | err e p => obtain ⟨o1, x, g, o2, o3⟩ := o; exact ⟨o1, x, g, o2, Ev.bind h o3⟩
/-- What is told of a text, read. -/
def tell (l : List S56) (S : List UInt8) : Rs → S28 × Int × Int
  | .err e p => (⟨0, 0, 0, []⟩, (p : Int), e)
  | .ok x g => if (tokAt (S.drop g)).1.isEof then (if treeErr l x = 0 then (x, 0, 0) else (⟨0, 0, 0, []⟩, 0, treeErr l x)) else (⟨0, 0, 0, []⟩, (g : Int), 1)
end
end Go.Proofs.YtodbnnfiadcbaaaL
namespace Go.Proofs.YtodbnnfiadcbaaaL
open Go.RowKit Go.Proofs.Ytodbnnfiadcbaaa.P Go.Proofs.YtodbnnfiadcbaaaW.PrintWords Go.Proofs.YtodbnnfiadcbaaaW.PrintLast Go.Proofs.YtodbnnfiadcbaaaW.PrintMore
set_option linter.unusedSimpArgs false
set_option linter.unusedVariables false
inductive Star (R : Nat → Nat → Prop) (i : Nat) : Nat → Prop
  | refl : Star R i i
  | step {j k : Nat} : Star R i j → R j k → Star R i k
theorem Star.trans {R : Nat → Nat → Prop} {i j k : Nat} (h : Star R i j) (h2 : Star R j k) : Star R i k := by
  induction h2 with
  | refl => exact h
  | step _ hr ih => exact .step ih hr
mutual
/-- The word's part from i to j is one of the tree's. -/
def inT (w : List Int) : S28 → Nat → Nat → Prop
  | ⟨k, a, b, xs⟩, i, j =>
    if k = 2 then i = j
    else if k = 3 then w[i]? = some a ∧ j = i + 1
    else if k = 4 then xs.length = 1 ∧ w[i]? = some a ∧ ∃ m, orT w xs (i + 1) m ∧ w[m]? = some b ∧ j = m + 1
    else if k = 5 then catT w xs i j
    else if k = 6 then orT w xs i j
    else if k = 7 then (if xs.length = 1 then Star (orT w xs) i j else i = j)
    else False
def orT (w : List Int) : List S28 → Nat → Nat → Prop
  | [], _, _ => False
  | x :: xs, i, j => inT w x i j ∨ orT w xs i j
def catT (w : List Int) : List S28 → Nat → Nat → Prop
  | [], i, j => i = j
  | x :: xs, i, j => ∃ m, inT w x i m ∧ catT w xs m j
end
theorem inT_eq (w : List Int) (e : S28) (i j : Nat) : inT w e i j = (if e.f0 = 2 then i = j
    else if e.f0 = 3 then w[i]? = some e.f1 ∧ j = i + 1
    else if e.f0 = 4 then e.f3.length = 1 ∧ w[i]? = some e.f1 ∧ ∃ m, orT w e.f3 (i + 1) m ∧ w[m]? = some e.f2 ∧ j = m + 1
    else if e.f0 = 5 then catT w e.f3 i j
    else if e.f0 = 6 then orT w e.f3 i j
    else if e.f0 = 7 then (if e.f3.length = 1 then Star (orT w e.f3) i j else i = j)
    else False) := by cases e; rw [inT]
theorem orT_one (w : List Int) (x : S28) (i j : Nat) : orT w [x] i j ↔ inT w x i j := by rw [orT, orT]; simp
theorem star_le {R : Nat → Nat → Prop} {m : Nat} (h : ∀ i j, i ≤ m → R i j → i ≤ j ∧ j ≤ m) {i j : Nat} (hi : i ≤ m) (hs : Star R i j) : i ≤ j ∧ j ≤ m := by
  induction hs with
  | refl => exact ⟨Nat.le_refl _, hi⟩
  | step _ hr ih => have := h _ _ ih.2 hr; omega
theorem lt_of_get {w : List Int} {i : Nat} {a : Int} (h : w[i]? = some a) : i < w.length := (List.getElem?_eq_some_iff.mp h).1
mutual
theorem inT_le (w : List Int) : ∀ (e : S28) (i j : Nat), i ≤ w.length → inT w e i j → i ≤ j ∧ j ≤ w.length
  | ⟨k, a, b, xs⟩, i, j, hi, h => by
    have ho := orT_le w xs
    have hc := catT_le w xs
    rw [inT] at h
    split at h
    · omega
    split at h
    · have := lt_of_get h.1; omega
    split at h
    · obtain ⟨_, h1, m, h2, h3, rfl⟩ := h
      have := lt_of_get h1
      have := lt_of_get h3
      have := ho _ _ (by omega) h2
      omega
    split at h
    · exact hc _ _ hi h
    split at h
    · exact ho _ _ hi h
    split at h
    · split at h
      · exact star_le ho hi h
      · omega
    · exact h.elim
theorem orT_le (w : List Int) : ∀ (xs : List S28) (i j : Nat), i ≤ w.length → orT w xs i j → i ≤ j ∧ j ≤ w.length
  | [], i, j, hi, h => by rw [orT] at h; exact h.elim
  | x :: xs, i, j, hi, h => by
    rw [orT] at h
    rcases h with h | h
    · exact inT_le w x i j hi h
    · exact orT_le w xs i j hi h
theorem catT_le (w : List Int) : ∀ (xs : List S28) (i j : Nat), i ≤ w.length → catT w xs i j → i ≤ j ∧ j ≤ w.length
  | [], i, j, hi, h => by rw [catT] at h; omega
  | x :: xs, i, j, hi, h => by
    rw [catT] at h
    obtain ⟨m, h1, h2⟩ := h
    have a := inT_le w x i m hi h1
    have b := catT_le w xs m j a.2 h2
    omega
end
/-! ### rows of places -/
def RowP (n : Nat) (row : List Bool) (P : Nat → Prop) : Prop := row.length = n + 1 ∧ ∀ j, row.getD j false = true ↔ (j ≤ n ∧ P j)
theorem rdOf_nat (row : List Bool) (j : Nat) : rdOf false row (j : Int) = row.getD j false := by unfold rdOf; rw [Int.toNat_natCast]
theorem getD_set (row : List Bool) (i j : Nat) (b : Bool) (h : i < row.length) : (row.set i b).getD j false = if i = j then b else row.getD j false := by
  rw [List.getD_eq_getElem?_getD, List.getD_eq_getElem?_getD, List.getElem?_set]
  by_cases e : i = j
  · subst e; simp [h]
  · simp [e]
theorem RowP.empty (n : Nat) : RowP n (List.replicate (n + 1) false) fun _ => False := by
  refine ⟨by simp, fun j => ?_⟩
  rw [List.getD_eq_getElem?_getD, List.getElem?_replicate]
  by_cases h : j < n + 1
  · rw [if_pos h]; simp
  · rw [if_neg h]; simp
theorem RowP.set {n : Nat} {row : List Bool} {P : Nat → Prop} (h : RowP n row P) {i : Nat} (hi : i ≤ n) : RowP n (row.set i true) fun j => P j ∨ j = i := by
  refine ⟨by rw [List.length_set]; exact h.1, fun j => ?_⟩
  rw [getD_set _ _ _ _ (by rw [h.1]; omega)]
  by_cases e : i = j
  · subst e; simp [hi]
  · rw [if_neg e, h.2 j]
    constructor
    · exact fun q => ⟨q.1, .inl q.2⟩
    · rintro ⟨q1, q2 | q2⟩
      · exact ⟨q1, q2⟩
      · exact absurd q2.symm e
theorem RowP.iff {n : Nat} {row : List Bool} {P Q : Nat → Prop} (h : RowP n row P) (hq : ∀ j, j ≤ n → (P j ↔ Q j)) : RowP n row Q :=
  ⟨h.1, fun j => by rw [h.2 j]; exact ⟨fun q => ⟨q.1, (hq j q.1).mp q.2⟩, fun q => ⟨q.1, (hq j q.1).mpr q.2⟩⟩⟩
theorem join_l0 (m : List Bool) (hm : m.length ≤ 1000000000) : ∀ (d i : Nat) (on : List Bool), i + d = m.length → on.length = m.length →
    ∃ r, expr_join.l0 (d + 1) on m (m.length : Int) (i : Int) = some r ∧ r.length = m.length ∧ ∀ j, r.getD j false = (on.getD j false || (decide (i ≤ j) && m.getD j false)) := by
  intro d
  induction d with
  | zero =>
    intro i on hi hl
    refine ⟨on, by rw [expr_join.l0, if_neg (by omega)], hl, fun j => ?_⟩
    by_cases h : i ≤ j
    · have : m.getD j false = false := by rw [List.getD_eq_getElem?_getD, List.getElem?_eq_none (by omega)]; rfl
      rw [this]; simp
    · simp [h]
  | succ d ih =>
    intro i on hi hl
    have hlt : i < m.length := by omega
    have step : ∀ b : Bool, (b = true ↔ (on.getD i false = true ∨ m.getD i false = true)) → ∃ r, expr_join.l0 (d + 1) (on.set i b) m (m.length : Int) ((i + 1 : Nat) : Int) = some r ∧ r.length = m.length ∧ ∀ j, r.getD j false = (on.getD j false || (decide (i ≤ j) && m.getD j false)) := by
      intro b hb
      obtain ⟨r, h1, h2, h3⟩ := ih (i + 1) (on.set i b) (by omega) (by rw [List.length_set]; exact hl)
      refine ⟨r, h1, h2, fun j => ?_⟩
      rw [h3 j, getD_set _ _ _ _ (by omega)]
      by_cases e : i = j
      · subst e
        rw [if_pos rfl, decide_eq_false (by omega), decide_eq_true (Nat.le_refl _), Bool.false_and, Bool.or_false, Bool.true_and]
        rw [Bool.eq_iff_iff, hb, Bool.or_eq_true]
      · rw [if_neg e]
        congr 2
        exact decide_eq_decide.mpr (by omega)
    by_cases h : rdOf false on (i : Int) = true
    · obtain ⟨r, h1, h2⟩ := step true (by rw [rdOf_nat] at h; exact ⟨fun _ => .inl h, fun _ => rfl⟩)
      refine ⟨r, ?_, h2⟩
      rw [expr_join.l0, if_pos (by omega), if_pos (by omega), if_pos (by omega), if_pos (by omega), if_pos h, Int.toNat_natCast, wrap_suc i m.length hlt hm]
      exact h1
    · obtain ⟨r, h1, h2⟩ := step (m.getD i false) (by rw [rdOf_nat] at h; exact ⟨fun q => .inr q, fun q => q.elim (fun q => absurd q h) id⟩)
      refine ⟨r, ?_, h2⟩
      rw [expr_join.l0, if_pos (by omega), if_pos (by omega), if_pos (by omega), if_pos (by omega), if_neg h, Int.toNat_natCast, rdOf_nat, wrap_suc i m.length hlt hm]
      exact h1
theorem join_row {n : Nat} (hn : n ≤ 100000000) {on m : List Bool} {P Q : Nat → Prop} (ho : RowP n on P) (hm : RowP n m Q) : ∃ r, expr_join.f (m.length + 2) on m = some r ∧ RowP n r fun j => P j ∨ Q j := by
  obtain ⟨r, h1, h2, h3⟩ := join_l0 m (by rw [hm.1]; omega) m.length 0 on (by omega) (by rw [ho.1, hm.1])
  refine ⟨r, expr_join.mono_l (m.length + 1) _ _ _ _ r h1, by rw [h2, hm.1], fun j => ?_⟩
  rw [h3 j, Bool.or_eq_true, Bool.and_eq_true, ho.2 j, hm.2 j]
  simp
  constructor
  · rintro (⟨a, b⟩ | ⟨a, b⟩)
    · exact ⟨a, .inl b⟩
    · exact ⟨a, .inr b⟩
  · rintro ⟨a, b | b⟩
    · exact .inl ⟨a, b⟩
    · exact .inr ⟨a, b⟩
end Go.Proofs.YtodbnnfiadcbaaaL
namespace Go.Proofs.YtodbnnfiadcbaaaL
open Go.RowKit Go.Proofs.Ytodbnnfiadcbaaa.P Go.Proofs.YtodbnnfiadcbaaaW.PrintWords Go.Proofs.YtodbnnfiadcbaaaW.PrintLast Go.Proofs.YtodbnnfiadcbaaaW.PrintMore
set_option linter.unusedSimpArgs false
set_option linter.unusedVariables false
section
variable (w : List Int) (hw : w.length ≤ 1000000)
theorem isB_iff (i : Nat) (a : Int) : Go.Proofs.Ytodbnnfiadcbaaa.P.isB w i a = true ↔ w[i]? = some a := by
  unfold Go.Proofs.Ytodbnnfiadcbaaa.P.isB
  rw [Bool.and_eq_true, decide_eq_true_eq, beq_iff_eq]
  constructor
  · rintro ⟨h1, h2⟩
    rw [List.getElem?_eq_getElem h1, ← h2]
    congr 1
    simp [rd, h1]
  · intro h
    obtain ⟨h1, h2⟩ := List.getElem?_eq_some_iff.mp h
    exact ⟨h1, by rw [← h2]; simp [rd, h1]⟩
theorem nest_row (fin : Int) : ∀ (bs : List Bool) (k : Nat) (out : List Bool) (P : Nat → Prop), k + bs.length = w.length + 1 → RowP w.length out P → RowP w.length (nestL w fin bs k out) fun j => P j ∨ ∃ i, k ≤ i ∧ bs.getD (i - k) false = true ∧ w[i]? = some fin ∧ j = i + 1
  | [], k, out, P, hk, h => by
    rw [nestL]
    refine h.iff fun j _ => ?_
    simp
  | b :: bs, k, out, P, hk, h => by
    rw [nestL]
    rw [List.length_cons] at hk
    have shift : ∀ (j : Nat) (Q : Nat → Prop), (∃ i, k ≤ i ∧ (b :: bs).getD (i - k) false = true ∧ Q i) ↔ ((b = true ∧ Q k) ∨ ∃ i, k + 1 ≤ i ∧ bs.getD (i - (k + 1)) false = true ∧ Q i) := fun j Q => by
      constructor
      · rintro ⟨i, h1, h2, h3⟩
        by_cases e : i = k
        · subst e
          rw [Nat.sub_self] at h2
          exact .inl ⟨h2, h3⟩
        · rw [show i - k = (i - (k + 1)) + 1 by omega] at h2
          exact .inr ⟨i, by omega, h2, h3⟩
      · rintro (⟨h1, h2⟩ | ⟨i, h1, h2, h3⟩)
        · exact ⟨k, Nat.le_refl _, by rw [Nat.sub_self]; exact h1, h2⟩
        · exact ⟨i, by omega, by rw [show i - k = (i - (k + 1)) + 1 by omega]; exact h2, h3⟩
    by_cases hb : (b && Go.Proofs.Ytodbnnfiadcbaaa.P.isB w k fin) = true
    · rw [if_pos hb]
      rw [Bool.and_eq_true, isB_iff] at hb
      have hkl := lt_of_get hb.2
      refine (nest_row fin bs (k + 1) _ _ (by omega) (h.set (i := k + 1) (by omega))).iff fun j _ => ?_
      rw [shift j (fun i => w[i]? = some fin ∧ j = i + 1)]
      constructor
      · rintro ((q | q) | q)
        · exact .inl q
        · exact .inr (.inl ⟨hb.1, hb.2, q⟩)
        · exact .inr (.inr q)
      · rintro (q | ⟨_, _, q⟩ | q)
        · exact .inl (.inl q)
        · exact .inl (.inr q)
        · exact .inr q
    · rw [if_neg hb]
      rw [Bool.and_eq_true, isB_iff] at hb
      refine (nest_row fin bs (k + 1) _ _ (by omega) h).iff fun j _ => ?_
      rw [shift j (fun i => w[i]? = some fin ∧ j = i + 1)]
      constructor
      · rintro (q | q)
        · exact .inl q
        · exact .inr (.inr q)
      · rintro (q | ⟨q1, q2, _⟩ | q)
        · exact .inl q
        · exact absurd ⟨q1, q2⟩ hb
        · exact .inr q
include hw
theorem orL_ev (at_ : Nat) : ∀ (cs : List S28) (out : List Bool) (P : Nat → Prop), (∀ c ∈ cs, ∃ m, Ev (fun k => endF k c at_ w) m ∧ RowP w.length m (inT w c at_)) → RowP w.length out P → ∃ r, Ev (fun k => Go.Proofs.Ytodbnnfiadcbaaa.P.orL (fun c => endF k c at_ w) cs out) r ∧ RowP w.length r fun j => P j ∨ orT w cs at_ j
  | [], out, P, _, h => ⟨out, Ev.congr (f := fun _ => some out) (fun k => by rw [Go.Proofs.Ytodbnnfiadcbaaa.P.orL]) (Ev.now _), h.iff fun j _ => by rw [orT]; simp⟩
  | c :: cs, out, P, hc, h => by
    obtain ⟨m, h1, h2⟩ := hc c (by simp)
    obtain ⟨o, h3, h4⟩ := join_row (by omega) h h2
    obtain ⟨r, h5, h6⟩ := orL_ev at_ cs o _ (fun x hx => hc x (by simp [hx])) h4
    refine ⟨r, ?_, h6.iff fun j _ => by rw [orT, or_assoc]⟩
    refine Ev.congr (fun k => by rw [Go.Proofs.Ytodbnnfiadcbaaa.P.orL]) ?_
    refine Ev.bind h1 ?_
    exact Ev.congr (fun k => by rw [h3, Option.bind_some]) h5
theorem catRow_ev (c : S28) (hc : ∀ j, j ≤ w.length → ∃ m, Ev (fun k => endF k c j w) m ∧ RowP w.length m (inT w c j)) : ∀ (bs : List Bool) (k : Nat) (next : List Bool) (P : Nat → Prop), k + bs.length = w.length + 1 → RowP w.length next P → ∃ r, Ev (fun K => catRow (fun j => endF K c j w) bs k next) r ∧ RowP w.length r fun j => P j ∨ ∃ i, k ≤ i ∧ bs.getD (i - k) false = true ∧ inT w c i j
  | [], k, next, P, hk, h => ⟨next, Ev.congr (f := fun _ => some next) (fun k => by rw [catRow]) (Ev.now _), h.iff fun j _ => by simp⟩
  | b :: bs, k, next, P, hk, h => by
    rw [List.length_cons] at hk
    have shift : ∀ (Q : Nat → Prop), (∃ i, k ≤ i ∧ (b :: bs).getD (i - k) false = true ∧ Q i) ↔ ((b = true ∧ Q k) ∨ ∃ i, k + 1 ≤ i ∧ bs.getD (i - (k + 1)) false = true ∧ Q i) := fun Q => by
      constructor
      · rintro ⟨i, h1, h2, h3⟩
        by_cases e : i = k
        · subst e
          rw [Nat.sub_self] at h2
          exact .inl ⟨h2, h3⟩
        · rw [show i - k = (i - (k + 1)) + 1 by omega] at h2
          exact .inr ⟨i, by omega, h2, h3⟩
      · rintro (⟨h1, h2⟩ | ⟨i, h1, h2, h3⟩)
        · exact ⟨k, Nat.le_refl _, by rw [Nat.sub_self]; exact h1, h2⟩
        · exact ⟨i, by omega, by rw [show i - k = (i - (k + 1)) + 1 by omega]; exact h2, h3⟩
    by_cases hb : b = true
    · obtain ⟨m, h1, h2⟩ := hc k (by omega)
      obtain ⟨o, h3, h4⟩ := join_row (by omega) h h2
      obtain ⟨r, h5, h6⟩ := catRow_ev c hc bs (k + 1) o _ (by omega) h4
      refine ⟨r, ?_, h6.iff fun j _ => ?_⟩
      · refine Ev.congr (fun k => by rw [catRow, if_pos hb]) ?_
        refine Ev.bind h1 ?_
        exact Ev.congr (fun k => by rw [h3, Option.bind_some]) h5
      · rw [shift fun i => inT w c i j]
        constructor
        · rintro ((q | q) | q)
          · exact .inl q
          · exact .inr (.inl ⟨hb, q⟩)
          · exact .inr (.inr q)
        · rintro (q | ⟨_, q⟩ | q)
          · exact .inl (.inl q)
          · exact .inl (.inr q)
          · exact .inr q
    · obtain ⟨r, h5, h6⟩ := catRow_ev c hc bs (k + 1) next _ (by omega) h
      refine ⟨r, Ev.congr (fun k => by rw [catRow, if_neg hb]) h5, h6.iff fun j _ => ?_⟩
      rw [shift fun i => inT w c i j]
      constructor
      · rintro (q | q)
        · exact .inl q
        · exact .inr (.inr q)
      · rintro (q | ⟨q1, _⟩ | q)
        · exact .inl q
        · exact absurd q1 hb
        · exact .inr q
theorem catL_ev : ∀ (cs : List S28) (out : List Bool) (P : Nat → Prop), (∀ c ∈ cs, ∀ j, j ≤ w.length → ∃ m, Ev (fun k => endF k c j w) m ∧ RowP w.length m (inT w c j)) → RowP w.length out P → ∃ r, Ev (fun K => Go.Proofs.Ytodbnnfiadcbaaa.P.catL (fun c j => endF K c j w) cs out) r ∧ RowP w.length r fun j => ∃ i, i ≤ w.length ∧ P i ∧ catT w cs i j
  | [], out, P, _, h => ⟨out, Ev.congr (f := fun _ => some out) (fun k => by rw [Go.Proofs.Ytodbnnfiadcbaaa.P.catL]) (Ev.now _), h.iff fun j hj => by
      simp only [catT]
      constructor
      · exact fun q => ⟨j, hj, q, rfl⟩
      · rintro ⟨i, _, q, rfl⟩; exact q⟩
  | c :: cs, out, P, hc, h => by
    obtain ⟨o, h1, h2⟩ := catRow_ev w hw c (hc c (by simp)) out 0 _ _ (by rw [h.1]; omega) (RowP.empty w.length)
    obtain ⟨r, h5, h6⟩ := catL_ev cs o _ (fun x hx => hc x (by simp [hx])) h2
    refine ⟨r, ?_, h6.iff fun j _ => ?_⟩
    · refine Ev.congr (fun k => by rw [Go.Proofs.Ytodbnnfiadcbaaa.P.catL, h.1]) ?_
      exact Ev.bind h1 h5
    · constructor
      · rintro ⟨i, hi, (q | ⟨m, _, q2, q3⟩), q4⟩
        · exact q.elim
        · rw [Nat.sub_zero, h.2 m] at q2
          exact ⟨m, q2.1, q2.2, by rw [catT]; exact ⟨i, q3, q4⟩⟩
      · rintro ⟨m, hm, q1, q2⟩
        rw [catT] at q2
        obtain ⟨i, q3, q4⟩ := q2
        exact ⟨i, (inT_le w c m i hm q3).2, .inr ⟨m, Nat.zero_le _, by rw [Nat.sub_zero, h.2 m]; exact ⟨hm, q1⟩, q3⟩, q4⟩
theorem starL_ev (c : S28) (at_ : Nat) (hc : ∀ j, j ≤ w.length → ∃ m, Ev (fun k => endF k c j w) m ∧ RowP w.length m (inT w c j)) : ∀ (d k n : Nat) (out : List Bool) (P : Nat → Prop), k + d = w.length + 1 → d < n → RowP w.length out P → P at_ → (∀ j, P j → Star (inT w c) at_ j) → (∀ i j, i < k → i ≤ w.length → P i → inT w c i j → P j) → at_ ≤ w.length →
    ∃ r, Ev (fun K => starL (fun j => endF K c j w) n k out) r ∧ RowP w.length r (Star (inT w c) at_) := by
  intro d
  induction d with
  | zero =>
    intro k n out P hk hn h h0 h1 h2 ha
    obtain ⟨n, rfl⟩ : ∃ m, n = m + 1 := ⟨n - 1, by omega⟩
    refine ⟨out, Ev.congr (f := fun _ => some out) (fun K => by rw [starL, if_neg (by rw [h.1]; omega)]) (Ev.now _), h.iff fun j hj => ⟨h1 j, fun q => ?_⟩⟩
    clear hj
    induction q with
    | refl => exact h0
    | step q1 q2 ih =>
      have := star_le (fun i j hi hr => inT_le w c i j hi hr) ha q1
      exact h2 _ _ (by omega) this.2 ih q2
  | succ d ih =>
    intro k n out P hk hn h h0 h1 h2 ha
    obtain ⟨n, rfl⟩ : ∃ m, n = m + 1 := ⟨n - 1, by omega⟩
    have hkl : k < out.length := by rw [h.1]; omega
    by_cases hb : rdOf false out (k : Int) = true
    · have hpk : P k := by rw [rdOf_nat, h.2 k] at hb; exact hb.2
      obtain ⟨m, h3, h4⟩ := hc k (by omega)
      obtain ⟨o, h5, h6⟩ := join_row (by omega) h h4
      obtain ⟨r, h7, h8⟩ := ih (k + 1) n o _ (by omega) (by omega) h6 (.inl h0) (fun j q => q.elim (h1 j) fun q => .step (h1 k hpk) q) (fun i j hi hil hp hr => by
        by_cases e : i = k
        · subst e; exact .inr hr
        · rcases hp with hp | hp
          · exact .inl (h2 i j (by omega) hil hp hr)
          · have := inT_le w c k i (by omega) hp
            omega) ha
      refine ⟨r, ?_, h8⟩
      refine Ev.congr (fun K => by rw [starL, if_pos hkl, if_pos hb]) ?_
      refine Ev.bind h3 ?_
      exact Ev.congr (fun K => by rw [h5, Option.bind_some]) h7
    · have hpk : ¬ P k := fun q => hb (by rw [rdOf_nat, h.2 k]; exact ⟨by omega, q⟩)
      obtain ⟨r, h7, h8⟩ := ih (k + 1) n out P (by omega) (by omega) h h0 h1 (fun i j hi hil hp hr => by
        by_cases e : i = k
        · subst e; exact absurd hp hpk
        · exact h2 i j (by omega) hil hp hr) ha
      exact ⟨r, Ev.congr (fun K => by rw [starL, if_pos hkl, if_neg hb]) h7, h8⟩
theorem end_row : ∀ (n : Nat) (e : S28), tsize e ≤ n → ∀ at_, at_ ≤ w.length → ∃ row, Ev (fun k => endF k e at_ w) row ∧ RowP w.length row (inT w e at_)
  | 0, e, h, _, _ => by rw [tsize_eq] at h; omega
  | n + 1, e, h, at_, ha => by
    have hz := tsize_eq e
    have kid : ∀ c ∈ e.f3, ∀ j, j ≤ w.length → ∃ m, Ev (fun k => endF k c j w) m ∧ RowP w.length m (inT w c j) := fun c hc j hj => end_row n c (by have := tsize_mem hc; omega) j hj
    have start : ∀ k, endF (k + 1) e at_ w = _ := fun k => by rw [endF, if_pos ⟨ha, Nat.lt_of_le_of_lt hw (by decide)⟩]
    have hE := RowP.empty w.length
    have put : RowP w.length ((List.replicate (w.length + 1) false).set at_ true) fun j => at_ = j := (hE.set ha).iff fun j _ => ⟨fun q => q.elim (fun q => q.elim) Eq.symm, fun q => .inr q.symm⟩
    show ∃ row, Ev (fun k => endF k e at_ w) row ∧ RowP w.length row (fun j => inT w e at_ j)
    simp only [inT_eq w e at_]
    by_cases k2 : e.f0 = 2
    · refine ⟨_, Ev.step start (Ev.congr (f := fun _ => some ((List.replicate (w.length + 1) false).set at_ true)) (fun k => by rw [if_pos k2]) (Ev.now _)), ?_⟩
      refine put.iff fun j _ => ?_
      rw [if_pos k2]
    by_cases k3 : e.f0 = 3
    · by_cases hb : Go.Proofs.Ytodbnnfiadcbaaa.P.isB w at_ e.f1 = true
      · have hq := (isB_iff w at_ e.f1).mp hb
        have := lt_of_get hq
        refine ⟨_, Ev.step start (Ev.congr (f := fun _ => some ((List.replicate (w.length + 1) false).set (at_ + 1) true)) (fun k => by rw [if_neg k2, if_pos k3, if_pos hb]) (Ev.now _)), ?_⟩
        refine (hE.set (i := at_ + 1) (by omega)).iff fun j _ => ?_
        rw [if_neg k2, if_pos k3]
        simp [hq]
      · refine ⟨_, Ev.step start (Ev.congr (f := fun _ => some (List.replicate (w.length + 1) false)) (fun k => by rw [if_neg k2, if_pos k3, if_neg hb]) (Ev.now _)), ?_⟩
        refine hE.iff fun j _ => ?_
        rw [if_neg k2, if_pos k3]
        rw [isB_iff] at hb
        simp [hb]
    by_cases k4 : e.f0 = 4
    · by_cases hb : e.f3.length = 1 ∧ Go.Proofs.Ytodbnnfiadcbaaa.P.isB w at_ e.f1 = true
      · obtain ⟨x, hx⟩ := List.length_eq_one_iff.mp hb.1
        have hq := (isB_iff w at_ e.f1).mp hb.2
        have := lt_of_get hq
        obtain ⟨m, h1, h2⟩ := kid x (by rw [hx]; simp) (at_ + 1) (by omega)
        have hn := nest_row w e.f2 m 0 _ _ (by rw [h2.1]; omega) hE
        refine ⟨_, Ev.step start (Ev.congr (fun k => by rw [if_neg k2, if_neg k3, if_pos k4, if_pos hb, hx]; rfl) (Ev.bind h1 (Ev.now (nestL w e.f2 m 0 (List.replicate (w.length + 1) false))))), ?_⟩
        refine hn.iff fun j _ => ?_
        rw [if_neg k2, if_neg k3, if_pos k4]
        constructor
        · rintro (q | ⟨i, _, q2, q3, q4⟩)
          · exact q.elim
          · rw [Nat.sub_zero, h2.2 i] at q2
            exact ⟨hb.1, hq, i, by rw [hx, orT_one]; exact q2.2, q3, q4⟩
        · rintro ⟨_, _, i, q2, q3, q4⟩
          rw [hx, orT_one] at q2
          have := inT_le w x (at_ + 1) i (by omega) q2
          exact .inr ⟨i, Nat.zero_le _, by rw [Nat.sub_zero, h2.2 i]; exact ⟨this.2, q2⟩, q3, q4⟩
      · refine ⟨_, Ev.step start (Ev.congr (f := fun _ => some (List.replicate (w.length + 1) false)) (fun k => by rw [if_neg k2, if_neg k3, if_pos k4, if_neg hb]) (Ev.now _)), ?_⟩
        refine hE.iff fun j _ => ?_
        rw [if_neg k2, if_neg k3, if_pos k4]
        constructor
        · exact fun q => q.elim
        · rintro ⟨q1, q2, _⟩
          exact hb ⟨q1, (isB_iff w at_ e.f1).mpr q2⟩
    by_cases k6 : e.f0 = 6
    · obtain ⟨r, h1, h2⟩ := orL_ev w hw at_ e.f3 _ _ (fun c hc => kid c hc at_ ha) hE
      refine ⟨r, Ev.step start (Ev.congr (fun k => by rw [if_neg k2, if_neg k3, if_neg k4, if_pos k6]) h1), ?_⟩
      refine h2.iff fun j _ => ?_
      rw [if_neg k2, if_neg k3, if_neg k4, if_neg (by omega), if_pos k6]
      simp
    by_cases k5 : e.f0 = 5
    · obtain ⟨r, h1, h2⟩ := catL_ev w hw e.f3 _ _ kid put
      refine ⟨r, Ev.step start (Ev.congr (fun k => by rw [if_neg k2, if_neg k3, if_neg k4, if_neg k6, if_pos k5]) h1), ?_⟩
      refine h2.iff fun j _ => ?_
      rw [if_neg k2, if_neg k3, if_neg k4, if_pos k5]
      constructor
      · rintro ⟨i, _, rfl, q⟩; exact q
      · exact fun q => ⟨at_, ha, rfl, q⟩
    by_cases k7 : e.f0 = 7
    · by_cases hb : e.f3.length = 1
      · obtain ⟨x, hx⟩ := List.length_eq_one_iff.mp hb
        obtain ⟨r, h1, h2⟩ := starL_ev w hw x at_ (kid x (by rw [hx]; simp)) (w.length + 1 - at_) at_ (w.length + 3) _ _ (by omega) (by omega) put rfl (fun j q => by subst q; exact .refl) (fun i j hi _ q => by omega) ha
        refine ⟨r, Ev.step start (Ev.congr (fun k => by rw [if_neg k2, if_neg k3, if_neg k4, if_neg k6, if_neg k5, if_pos k7, if_pos hb, hx]; rfl) h1), ?_⟩
        refine h2.iff fun j _ => ?_
        rw [if_neg k2, if_neg k3, if_neg k4, if_neg k5, if_neg k6, if_pos k7, if_pos hb, hx]
        have : orT w [x] = inT w x := by funext a b; exact propext (orT_one w x a b)
        rw [this]
      · refine ⟨_, Ev.step start (Ev.congr (f := fun _ => some ((List.replicate (w.length + 1) false).set at_ true)) (fun k => by rw [if_neg k2, if_neg k3, if_neg k4, if_neg k6, if_neg k5, if_pos k7, if_neg hb]) (Ev.now _)), ?_⟩
        refine put.iff fun j _ => ?_
        rw [if_neg k2, if_neg k3, if_neg k4, if_neg k5, if_neg k6, if_pos k7, if_neg hb]
    · refine ⟨_, Ev.step start (Ev.congr (f := fun _ => some (List.replicate (w.length + 1) false)) (fun k => by rw [if_neg k2, if_neg k3, if_neg k4, if_neg k6, if_neg k5, if_neg k7]) (Ev.now _)), ?_⟩
      refine hE.iff fun j _ => ?_
      rw [if_neg k2, if_neg k3, if_neg k4, if_neg k5, if_neg k6, if_neg k7]
theorem has_ev (e : S28) : ∃ b, Ev (fun k => hasF k e w) b ∧ (b = true ↔ inT w e 0 w.length) := by
  obtain ⟨row, h1, h2⟩ := end_row w hw _ e (Nat.le_refl _) 0 (Nat.zero_le _)
  refine ⟨rdOf false row (w.length : Int), ?_, by rw [rdOf_nat, h2.2]; simp⟩
  unfold hasF
  refine Ev.bind h1 ?_
  exact Ev.congr (f := fun _ => some (rdOf false row (w.length : Int))) (fun k => by rw [if_pos (by rw [h2.1]; omega)]) (Ev.now _)
end
end Go.Proofs.YtodbnnfiadcbaaaL
namespace Go.Proofs.YtodbnnfiadcbaaaL
open Go.RowKit Go.Proofs.Ytodbnnfiadcbaaa.P Go.Proofs.YtodbnnfiadcbaaaW.PrintWords Go.Proofs.YtodbnnfiadcbaaaW.PrintLast Go.Proofs.YtodbnnfiadcbaaaW.PrintMore
section
variable {w' v : List Int} {s : Nat} (hs : ∀ k, k < v.length → w'[s + k]? = v[k]?) (hl : s + v.length ≤ w'.length)
include hs hl
theorem star_sub {R' R : Nat → Nat → Prop} (h1 : ∀ i j, i ≤ w'.length → R' i j → i ≤ j ∧ j ≤ w'.length) (h2 : ∀ i j, i ≤ v.length → R i j → i ≤ j ∧ j ≤ v.length)
    (h : ∀ i j, i ≤ v.length → j ≤ v.length → (R' (s + i) (s + j) ↔ R i j)) (i j : Nat) (hi : i ≤ v.length) (hj : j ≤ v.length) : Star R' (s + i) (s + j) ↔ Star R i j := by
  constructor
  · have key : ∀ b, Star R' (s + i) b → ∀ j, b = s + j → j ≤ v.length → Star R i j := by
      intro b hb
      induction hb with
      | refl => intro j e _; obtain rfl : j = i := by omega
                exact .refl
      | @step j' k' hs' hr ih =>
        intro j e hj
        have a := star_le h1 (by omega) hs'
        have b := h1 _ _ a.2 hr
        exact .step (ih (j' - s) (by omega) (by omega)) ((h (j' - s) j (by omega) hj).1 (by rw [← e, show s + (j' - s) = j' by omega]; exact hr))
    exact fun hb => key _ hb j rfl hj
  · intro hb
    induction hb with
    | refl => exact .refl
    | step hs' hr ih =>
      have a := star_le h2 hi hs'
      exact .step (ih a.2) ((h _ _ a.2 hj).2 hr)
mutual
theorem inT_sub : ∀ (e : S28) (i j : Nat), i ≤ v.length → j ≤ v.length → (inT w' e (s + i) (s + j) ↔ inT v e i j)
  | ⟨k, a, b, xs⟩, i, j, hi, hj => by
    have ho := orT_sub xs
    have hc := catT_sub xs
    have hst := star_sub hs hl (orT_le w' xs) (orT_le v xs) ho i j hi hj
    rw [inT, inT]
    split
    · omega
    split
    · constructor
      · rintro ⟨h1, h2⟩
        exact ⟨by rw [← hs i (by omega)]; exact h1, by omega⟩
      · rintro ⟨h1, h2⟩
        exact ⟨by rw [hs i (lt_of_get h1)]; exact h1, by omega⟩
    split
    · constructor
      · rintro ⟨h0, h1, m, h2, h3, h4⟩
        have := lt_of_get h1
        have := orT_le w' xs _ _ (by omega) h2
        refine ⟨h0, by rw [← hs i (by omega)]; exact h1, m - s, (ho (i + 1) (m - s) (by omega) (by omega)).1 ?_, ?_, by omega⟩
        · rw [show s + (i + 1) = s + i + 1 by omega, show s + (m - s) = m by omega]; exact h2
        · rw [← hs _ (by omega), show s + (m - s) = m by omega]; exact h3
      · rintro ⟨h0, h1, m, h2, h3, h4⟩
        have hlt := lt_of_get h1
        have hm := lt_of_get h3
        exact ⟨h0, by rw [hs i hlt]; exact h1, s + m, by have := (ho (i + 1) m (by omega) (by omega)).2 h2; rwa [show s + (i + 1) = s + i + 1 by omega] at this, by rw [hs m hm]; exact h3, by omega⟩
    split
    · exact hc i j hi hj
    split
    · exact ho i j hi hj
    split
    · split
      · exact hst
      · omega
    · exact Iff.rfl
theorem orT_sub : ∀ (xs : List S28) (i j : Nat), i ≤ v.length → j ≤ v.length → (orT w' xs (s + i) (s + j) ↔ orT v xs i j)
  | [], i, j, hi, hj => by rw [orT, orT]
  | x :: xs, i, j, hi, hj => by rw [orT, orT, inT_sub x i j hi hj, orT_sub xs i j hi hj]
theorem catT_sub : ∀ (xs : List S28) (i j : Nat), i ≤ v.length → j ≤ v.length → (catT w' xs (s + i) (s + j) ↔ catT v xs i j)
  | [], i, j, hi, hj => by rw [catT, catT]; omega
  | x :: xs, i, j, hi, hj => by
    rw [catT, catT]
    constructor
    · rintro ⟨m, h1, h2⟩
      have a := inT_le w' x _ _ (by omega) h1
      have b := catT_le w' xs _ _ a.2 h2
      refine ⟨m - s, (inT_sub x i (m - s) hi (by omega)).1 ?_, (catT_sub xs (m - s) j (by omega) hj).1 ?_⟩
      · rw [show s + (m - s) = m by omega]; exact h1
      · rw [show s + (m - s) = m by omega]; exact h2
    · rintro ⟨m, h1, h2⟩
      have a := inT_le v x _ _ hi h1
      exact ⟨s + m, (inT_sub x i m hi a.2).2 h1, (catT_sub xs m j a.2 hj).2 h2⟩
end
end
/-- The tree has the word. -/
def HasW (e : S28) (w : List Int) : Prop := inT w e 0 w.length
theorem get_app (u v t : List Int) (k : Nat) (h : k < v.length) : (u ++ v ++ t)[u.length + k]? = v[k]? := by
  rw [List.getElem?_append_left (by rw [List.length_append]; omega), List.getElem?_append_right (by omega), Nat.add_sub_cancel_left]
theorem has_mid (e : S28) (u v t : List Int) : inT (u ++ v ++ t) e u.length (u.length + v.length) ↔ HasW e v :=
  inT_sub (get_app u v t) (by rw [List.length_append, List.length_append]; omega) e 0 v.length (Nat.zero_le _) (Nat.le_refl _)
theorem has_pre (e : S28) (v t : List Int) : inT (v ++ t) e 0 v.length ↔ HasW e v := by
  have := has_mid e [] v t
  rwa [List.nil_append, List.length_nil, Nat.zero_add] at this
theorem has_suf (e : S28) (u v : List Int) : inT (u ++ v) e u.length (u.length + v.length) ↔ HasW e v := by
  have := has_mid e u v []
  rwa [List.append_nil] at this
theorem has_void (a b : Int) (xs : List S28) : HasW ⟨2, a, b, xs⟩ [] := by unfold HasW; rw [inT, if_pos rfl]; exact rfl
theorem has_sym (a b : Int) (xs : List S28) : HasW ⟨3, a, b, xs⟩ [a] := by unfold HasW; rw [inT, if_neg (by decide), if_pos rfl]; exact ⟨rfl, rfl⟩
theorem nest_iff (a b : Int) (x : S28) (w : List Int) : HasW ⟨4, a, b, [x]⟩ (a :: w ++ [b]) ↔ HasW x w := by
  unfold HasW
  have key := has_mid x [a] w [b]
  rw [inT, if_neg (by decide), if_neg (by decide), if_pos rfl]
  constructor
  · rintro ⟨_, _, m, h1, _, h2⟩
    rw [orT_one] at h1
    refine key.1 ?_
    have : m = [a].length + w.length := by simp at h2 ⊢; omega
    rw [← this]; exact h1
  · intro h
    refine ⟨rfl, rfl, [a].length + w.length, (orT_one _ _ _ _).2 (key.2 h), ?_, by simp; omega⟩
    rw [show [a].length + w.length = (a :: w).length from by simp; omega, List.getElem?_append_right (Nat.le_refl _), Nat.sub_self]; rfl
theorem cat_snoc (w : List Int) (x : S28) : ∀ (xs : List S28) (i m j : Nat), catT w xs i m → inT w x m j → catT w (xs ++ [x]) i j
  | [], i, m, j, h, h2 => by rw [catT] at h; subst h; rw [List.nil_append, catT]; exact ⟨j, h2, by rw [catT]⟩
  | y :: ys, i, m, j, h, h2 => by
    rw [catT] at h
    obtain ⟨q, h3, h4⟩ := h
    rw [List.cons_append, catT]
    exact ⟨q, h3, cat_snoc w x ys q m j h4 h2⟩
theorem has_cat {a b : Int} {xs : List S28} {x : S28} {w v : List Int} (h : HasW ⟨5, a, b, xs⟩ w) (h2 : HasW x v) : HasW ⟨5, a, b, xs ++ [x]⟩ (w ++ v) := by
  have h3 := (has_pre _ w v).2 h
  have h4 := (has_suf _ w v).2 h2
  unfold HasW
  rw [inT, if_neg (by decide), if_neg (by decide), if_neg (by decide), if_pos rfl] at h3 ⊢
  rw [List.length_append]
  exact cat_snoc _ x xs 0 _ _ h3 h4
theorem cat_nil (a b : Int) : HasW ⟨5, a, b, []⟩ [] := by unfold HasW; rw [inT, if_neg (by decide), if_neg (by decide), if_neg (by decide), if_pos rfl, catT]; rfl
theorem orT_mem (w : List Int) (i j : Nat) : ∀ (xs : List S28), orT w xs i j ↔ ∃ x ∈ xs, inT w x i j
  | [] => by rw [orT]; simp
  | x :: xs => by rw [orT, orT_mem w i j xs]; simp
theorem or_iff (a b : Int) (xs : List S28) (w : List Int) : HasW ⟨6, a, b, xs⟩ w ↔ ∃ x ∈ xs, HasW x w := by
  unfold HasW
  rw [inT, if_neg (by decide), if_neg (by decide), if_neg (by decide), if_neg (by decide), if_pos rfl]
  exact orT_mem w 0 _ xs
theorem star_eq (a b : Int) (x : S28) (w : List Int) (i j : Nat) : inT w ⟨7, a, b, [x]⟩ i j = Star (orT w [x]) i j := by
  rw [inT, if_neg (by decide), if_neg (by decide), if_neg (by decide), if_neg (by decide), if_neg (by decide), if_pos rfl, if_pos (show [x].length = 1 from rfl)]
theorem star_nil (a b : Int) (x : S28) : HasW ⟨7, a, b, [x]⟩ [] := by unfold HasW; rw [star_eq]; exact .refl
theorem has_star {a b : Int} {x : S28} {w v : List Int} (h : HasW ⟨7, a, b, [x]⟩ w) (h2 : HasW x v) : HasW ⟨7, a, b, [x]⟩ (w ++ v) := by
  have h3 := (has_pre _ w v).2 h
  have h4 := (has_suf _ w v).2 h2
  unfold HasW
  rw [star_eq] at h3 ⊢
  rw [List.length_append]
  exact .step h3 ((orT_one _ _ _ _).2 h4)
end Go.Proofs.YtodbnnfiadcbaaaL
namespace Go.Proofs.YtodbnnfiadcbaaaL
open Go.RowKit Go.Proofs.Ytodbnnfiadcbaaa.P Go.Proofs.YtodbnnfiadcbaaaW.PrintWords Go.Proofs.YtodbnnfiadcbaaaW.PrintLast Go.Proofs.YtodbnnfiadcbaaaW.PrintMore
def Lv : Nat → S28 → Prop
  | 0, e => e.f3 = []
  | d + 1, e => e.f3.length ≤ 3 ∧ ∀ x ∈ e.f3, Lv d x
theorem lv_leaf (d : Nat) (k a b : Int) : Lv d ⟨k, a, b, []⟩ := by
  cases d with
  | zero => rfl
  | succ d => exact ⟨Nat.zero_le _, fun x h => nomatch h⟩
theorem lv_pos {d : Nat} {k a b : Int} {x : S28} {xs : List S28} (h : Lv d ⟨k, a, b, x :: xs⟩) : ∃ d', d = d' + 1 ∧ (x :: xs).length ≤ 3 ∧ ∀ z ∈ x :: xs, Lv d' z := by
  cases d with
  | zero => cases h
  | succ d => exact ⟨d, rfl, h.1, h.2⟩
theorem cat_unsnoc (w : List Int) (x : S28) : ∀ (xs : List S28) (i j : Nat), catT w (xs ++ [x]) i j → ∃ m, catT w xs i m ∧ inT w x m j
  | [], i, j, h => by
    rw [List.nil_append, catT] at h
    obtain ⟨m, h1, h2⟩ := h
    rw [catT] at h2
    subst h2
    exact ⟨i, by rw [catT], h1⟩
  | y :: ys, i, j, h => by
    rw [List.cons_append, catT] at h
    obtain ⟨q, h1, h2⟩ := h
    obtain ⟨m, h3, h4⟩ := cat_unsnoc w x ys q j h2
    exact ⟨m, by rw [catT]; exact ⟨q, h1, h3⟩, h4⟩
theorem hasC_eq (a b : Int) (xs : List S28) (w : List Int) (i j : Nat) : inT w ⟨5, a, b, xs⟩ i j = catT w xs i j := by
  rw [inT, if_neg (by decide), if_neg (by decide), if_neg (by decide), if_pos rfl]
theorem has_split {a b : Int} {xs : List S28} {x : S28} {u : List Int} (h : HasW ⟨5, a, b, xs ++ [x]⟩ u) : ∃ m, m ≤ u.length ∧ HasW ⟨5, a, b, xs⟩ (u.take m) ∧ HasW x (u.drop m) := by
  unfold HasW at h
  rw [hasC_eq] at h
  obtain ⟨m, h1, h2⟩ := cat_unsnoc u x xs 0 _ h
  have hm := (catT_le u xs 0 m (Nat.zero_le _) h1).2
  refine ⟨m, hm, ?_, ?_⟩
  · have := (has_pre ⟨5, a, b, xs⟩ (u.take m) (u.drop m)).1
    rw [List.take_append_drop, List.length_take, Nat.min_eq_left hm, hasC_eq] at this
    exact this h1
  · have := (has_suf x (u.take m) (u.drop m)).1
    rw [List.take_append_drop, List.length_take, Nat.min_eq_left hm, List.length_drop, show m + (u.length - m) = u.length by omega] at this
    exact this h2
/-- No word. -/
def NoW (e : S28) : Prop := ∀ k, Lv k e → ∀ u, ¬ HasW e u
/-- What is made of a tree, by the tree. -/
def WP (e : S28) (w : List Int) (is : Bool) : Prop := (is = true → HasW e w) ∧ (is = true → ∀ k, Lv k e → w.length ≤ 3 ^ k ∧ ∀ u, HasW e u → 3 * w.length ≤ u.length + 2 * 3 ^ k) ∧ (is = false → NoW e)
theorem pow3 (k : Nat) : 1 ≤ 3 ^ k := Nat.one_le_pow _ _ (by decide)
theorem wp_void (a b : Int) (xs : List S28) : WP ⟨2, a, b, xs⟩ [] true := ⟨fun _ => has_void a b xs, fun _ k _ => ⟨Nat.zero_le _, fun u _ => Nat.zero_le _⟩, fun h => nomatch h⟩
theorem sym_len {a b : Int} {xs : List S28} {u : List Int} (h : HasW ⟨3, a, b, xs⟩ u) : u.length = 1 := by
  unfold HasW at h
  rw [inT, if_neg (by decide), if_pos rfl] at h
  omega
theorem wp_sym (a b : Int) (xs : List S28) : WP ⟨3, a, b, xs⟩ [a] true := ⟨fun _ => has_sym a b xs, fun _ k _ => ⟨pow3 k, fun u h => by have := sym_len h; have := pow3 k; simp only [List.length_cons, List.length_nil]; omega⟩, fun h => nomatch h⟩
theorem nest_inv {a b : Int} {x : S28} {u : List Int} (h : HasW ⟨4, a, b, [x]⟩ u) : ∃ v, u = a :: v ++ [b] ∧ HasW x v := by
  unfold HasW at h
  rw [inT, if_neg (by decide), if_neg (by decide), if_pos rfl] at h
  obtain ⟨_, h1, m, h2, h3, h4⟩ := h
  have hlt := lt_of_get h3
  have hl := lt_of_get h1
  obtain ⟨c, t, rfl⟩ : ∃ c t, u = c :: t := by cases u with
    | nil => simp at hl
    | cons c t => exact ⟨c, t, rfl⟩
  obtain rfl : c = a := by simpa using h1
  rcases List.eq_nil_or_concat t with rfl | ⟨v, q, rfl⟩
  · have := orT_le [c] [x] 1 m (by simp) h2
    simp at h4
    omega
  · rw [List.concat_eq_append] at *
    have hm : m = (c :: v).length := by simp at h4 ⊢; omega
    have hq : q = b := by
      rw [hm, ← List.cons_append, List.getElem?_append_right (Nat.le_refl _), Nat.sub_self] at h3
      simpa using h3
    subst hq
    exact ⟨v, rfl, (nest_iff c q x v).1 (by unfold HasW; rw [inT, if_neg (by decide), if_neg (by decide), if_pos rfl]; exact ⟨‹_›, h1, m, h2, h3, h4⟩)⟩
theorem wp_nest {a b : Int} {x : S28} {w : List Int} {is : Bool} (h : WP x w is) : WP ⟨4, a, b, [x]⟩ (a :: w ++ [b]) is := by
  refine ⟨fun hi => (nest_iff a b x w).2 (h.1 hi), fun hi k hk => ?_, fun hi k hk u hu => ?_⟩
  · obtain ⟨d, rfl, _, hx⟩ := lv_pos hk
    obtain ⟨h1, h2⟩ := h.2.1 hi d (hx x (List.mem_cons_self ..))
    have := pow3 d
    refine ⟨by simp only [List.length_append, List.length_cons, List.length_nil, Nat.pow_succ]; omega, fun u hu => ?_⟩
    obtain ⟨v, rfl, hv⟩ := nest_inv hu
    have := h2 v hv
    simp only [List.length_append, List.length_cons, List.length_nil, Nat.pow_succ]
    omega
  · obtain ⟨d, rfl, _, hx⟩ := lv_pos hk
    obtain ⟨v, rfl, hv⟩ := nest_inv hu
    exact h.2.2 hi d (hx x (List.mem_cons_self ..)) v hv
/-- What is made of trees, one behind the other. -/
def CP (a b : Int) (cs : List S28) (w : List Int) : Prop := HasW ⟨5, a, b, cs⟩ w ∧ ∀ k, (∀ x ∈ cs, Lv k x) → w.length ≤ cs.length * 3 ^ k ∧ ∀ u, HasW ⟨5, a, b, cs⟩ u → 3 * w.length ≤ u.length + cs.length * (2 * 3 ^ k)
theorem cp_nil (a b : Int) : CP a b [] [] := ⟨cat_nil a b, fun k _ => ⟨Nat.zero_le _, fun u _ => Nat.zero_le _⟩⟩
theorem cp_snoc {a b : Int} {cs : List S28} {x : S28} {w v : List Int} (h : CP a b cs w) (h2 : WP x v true) : CP a b (cs ++ [x]) (w ++ v) := by
  refine ⟨has_cat h.1 (h2.1 rfl), fun k hk => ?_⟩
  obtain ⟨g1, g2⟩ := h.2 k (fun y hy => hk y (List.mem_append_left _ hy))
  obtain ⟨g3, g4⟩ := h2.2.1 rfl k (hk x (List.mem_append_right _ (List.mem_cons_self ..)))
  refine ⟨by rw [List.length_append, List.length_append, Nat.add_mul]; simp only [List.length_cons, List.length_nil]; omega, fun u hu => ?_⟩
  obtain ⟨m, hm, h5, h6⟩ := has_split hu
  have q1 := g2 _ h5
  have q2 := g4 _ h6
  rw [List.length_take, Nat.min_eq_left hm] at q1
  rw [List.length_drop] at q2
  rw [List.length_append, List.length_append, Nat.add_mul]
  simp only [List.length_cons, List.length_nil]
  omega
theorem wp_cat {a b : Int} {xs : List S28} {w : List Int} (h : CP a b xs w) : WP ⟨5, a, b, xs⟩ w true := by
  refine ⟨fun _ => h.1, fun _ k hk => ?_, fun h => nomatch h⟩
  cases xs with
  | nil =>
    have := (h.2 k (fun x h => nomatch h)).1
    simp only [List.length_nil, Nat.zero_mul] at this
    have := pow3 k
    exact ⟨by omega, fun u _ => by omega⟩
  | cons x xs =>
    obtain ⟨d, rfl, h3, hx⟩ := lv_pos hk
    obtain ⟨g1, g2⟩ := h.2 d hx
    have m1 := Nat.mul_le_mul_right (3 ^ d) h3
    have m2 := Nat.mul_le_mul_right (2 * 3 ^ d) h3
    refine ⟨by rw [Nat.pow_succ]; omega, fun u hu => ?_⟩
    have := g2 u hu
    rw [Nat.pow_succ]
    omega
theorem catT_mem (w : List Int) (x : S28) : ∀ (xs : List S28) (i j : Nat), i ≤ w.length → x ∈ xs → catT w xs i j → ∃ p q, p ≤ q ∧ q ≤ w.length ∧ inT w x p q
  | y :: ys, i, j, hi, hx, h => by
    rw [catT] at h
    obtain ⟨m, h1, h2⟩ := h
    have := inT_le w y i m hi h1
    cases hx with
    | head => exact ⟨i, m, this.1, this.2, h1⟩
    | tail _ hx => exact catT_mem w x ys m j this.2 hx h2
theorem has_part {w : List Int} {x : S28} {p q : Nat} (hp : p ≤ q) (hq : q ≤ w.length) (h : inT w x p q) : HasW x ((w.take q).drop p) := by
  have e : w = w.take p ++ (w.take q).drop p ++ w.drop q := by
    have : w.take p = (w.take q).take p := by rw [List.take_take, Nat.min_eq_left hp]
    rw [this, List.take_append_drop, List.take_append_drop]
  have := (has_mid x (w.take p) ((w.take q).drop p) (w.drop q)).1
  rw [← e, List.length_take, Nat.min_eq_left (by omega), List.length_drop, List.length_take, Nat.min_eq_left hq, show p + (q - p) = q by omega] at this
  exact this h
theorem wp_cat0 {a b : Int} {xs : List S28} {x : S28} (hx : x ∈ xs) (h : NoW x) : WP ⟨5, a, b, xs⟩ [] false := by
  refine ⟨(fun h => nomatch h), (fun h => nomatch h), fun _ k hk u hu => ?_⟩
  cases xs with
  | nil => cases hx
  | cons y ys =>
    obtain ⟨d, rfl, _, hl⟩ := lv_pos hk
    unfold HasW at hu
    rw [hasC_eq] at hu
    obtain ⟨p, q, h1, h2, h3⟩ := catT_mem u x _ 0 _ (Nat.zero_le _) hx hu
    exact h d (hl x hx) _ (has_part h1 h2 h3)
theorem wp_or {a b : Int} {xs : List S28} {x : S28} {w : List Int} (hx : x ∈ xs) (h : WP x w true) : WP ⟨6, a, b, xs⟩ w true := by
  refine ⟨fun _ => (or_iff a b xs w).2 ⟨x, hx, h.1 rfl⟩, fun _ k hk => ?_, fun h => nomatch h⟩
  cases xs with
  | nil => cases hx
  | cons y ys =>
    obtain ⟨d, rfl, _, hl⟩ := lv_pos hk
    obtain ⟨g1, _⟩ := h.2.1 rfl d (hl x hx)
    exact ⟨by rw [Nat.pow_succ]; omega, fun u _ => by rw [Nat.pow_succ]; omega⟩
theorem wp_or0 {a b : Int} {xs : List S28} (h : ∀ x ∈ xs, NoW x) : WP ⟨6, a, b, xs⟩ [] false := by
  refine ⟨(fun h => nomatch h), (fun h => nomatch h), fun _ k hk u hu => ?_⟩
  obtain ⟨x, hx, hw⟩ := (or_iff a b xs u).1 hu
  cases xs with
  | nil => cases hx
  | cons y ys =>
    obtain ⟨d, rfl, _, hl⟩ := lv_pos hk
    exact h x hx d (hl x hx) u hw
/-- What is made of a tree, as often as may be. -/
def SP (a b : Int) (x : S28) (j : Nat) (w : List Int) : Prop := HasW ⟨7, a, b, [x]⟩ w ∧ ∀ k, Lv k x → w.length ≤ j * 3 ^ k
theorem sp_nil (a b : Int) (x : S28) : SP a b x 0 [] := ⟨star_nil a b x, fun _ _ => Nat.zero_le _⟩
theorem sp_snoc {a b : Int} {x : S28} {j : Nat} {w v : List Int} (h : SP a b x j w) (h2 : WP x v true) : SP a b x (j + 1) (w ++ v) :=
  ⟨has_star h.1 (h2.1 rfl), fun k hk => by have := h.2 k hk; have := (h2.2.1 rfl k hk).1; rw [List.length_append, Nat.add_mul]; omega⟩
theorem wp_star {a b : Int} {x : S28} {j : Nat} {w : List Int} (h : SP a b x j w) (hj : j ≤ 2) : WP ⟨7, a, b, [x]⟩ w true := by
  refine ⟨fun _ => h.1, fun _ k hk => ?_, fun h => nomatch h⟩
  obtain ⟨d, rfl, _, hl⟩ := lv_pos hk
  have g := h.2 d (hl x (List.mem_cons_self ..))
  have := Nat.mul_le_mul_right (3 ^ d) hj
  exact ⟨by rw [Nat.pow_succ]; omega, fun u _ => by rw [Nat.pow_succ]; omega⟩
theorem wp_none {k a b : Int} {xs : List S28} (h2 : k ≠ 2) (h3 : k ≠ 3) (h4 : k ≠ 4) (h5 : k ≠ 5) (h6 : k ≠ 6) (h7 : k ≠ 7) : WP ⟨k, a, b, xs⟩ [] false := by
  refine ⟨(fun h => nomatch h), (fun h => nomatch h), fun _ d _ u hu => ?_⟩
  unfold HasW at hu
  rwa [inT, if_neg h2, if_neg h3, if_neg h4, if_neg h5, if_neg h6, if_neg h7] at hu
/-- A word too long to be told: the tree has no short one. -/
theorem wp_long {e : S28} {w : List Int} (h : WP e w true) (hl : Lv 3 e) (hw : 24 < w.length) (u : List Int) (hu : HasW e u) : 20 < u.length := by
  have := (h.2.1 rfl 3 hl).2 u hu
  omega
end Go.Proofs.YtodbnnfiadcbaaaL
namespace Go.Proofs.YtodbnnfiadcbaaaL
open Go.RowKit Go.Proofs.Ytodbnnfiadcbaaa.P Go.Proofs.YtodbnnfiadcbaaaW.PrintWords Go.Proofs.YtodbnnfiadcbaaaW.PrintLast Go.Proofs.YtodbnnfiadcbaaaW.PrintMore
end Go.Proofs.YtodbnnfiadcbaaaL
namespace Go.Proofs.YtodbnnfiadcbaaaL
open Go.RowKit Go.Proofs.Ytodbnnfiadcbaaa.P Go.Proofs.YtodbnnfiadcbaaaW.PrintWords Go.Proofs.YtodbnnfiadcbaaaW.PrintLast Go.Proofs.YtodbnnfiadcbaaaW.PrintMore
set_option linter.unusedSimpArgs false
set_option linter.unusedVariables false
set_option linter.unusedSectionVars false
theorem tformedL_all : ∀ {xs : List S28}, (∀ z ∈ xs, tformed z = true) → tformedL xs = true
  | [], _ => by rw [tformedL]
  | x :: xs, h => by rw [tformedL, h x (by simp), tformedL_all (fun z hz => h z (by simp [hz]))]; rfl
theorem tbadL_all {l : List S56} : ∀ {xs : List S28}, (∀ z ∈ xs, tbad l z = false) → tbadL l xs = false
  | [], _ => by rw [tbadL]
  | x :: xs, h => by rw [tbadL, h x (by simp), tbadL_all (fun z hz => h z (by simp [hz]))]; rfl
theorem ofF_in {l : List S56} {i : Int} (h0 : 0 ≤ i) (h1 : i < (l.length : Int)) : ofF l i = (rd_T56 l i).f1 := by
  unfold ofF
  rw [if_neg (by omega), if_neg (by omega)]
theorem view_fit {l : List S56} (hk : kindsB l = true) {e : S28} (v : View l e) : Fit l e := by
  have mk : ∀ (k a b : Int) (xs : List S28), shF ⟨k, a, b, xs⟩ = true → ovNm l ⟨k, a, b, xs⟩ false = false → (∀ z ∈ xs, Fit l z) → Fit l ⟨k, a, b, xs⟩ := fun k a b xs h1 h2 h3 =>
    ⟨by rw [tformed, h1, tformedL_all (fun z hz => (h3 z hz).1)]; rfl, by rw [tbad, h2, tbadL_all (fun z hz => (h3 z hz).2)]; rfl⟩
  cases v with
  | none => exact mk _ _ _ _ rfl rfl (by simp)
  | void => exact mk _ _ _ _ rfl rfl (by simp)
  | sym a h0 h1 =>
    refine mk _ _ _ _ rfl ?_ (by simp)
    show (false || ofF l a == 0) = false
    rw [ofF_in h0 h1, Bool.false_or, beq_eq_false_iff_ne]
    rcases kind_of hk h0 h1 with q | q | q <;> rw [q] <;> decide
  | nest a b x a0 a1 a2 b0 b1 b2 hx =>
    refine mk _ _ _ _ rfl ?_ (by simpa using hx)
    show (false || (ofF l a != 1 || ofF l b != 2)) = false
    rw [ofF_in a0 a1, ofF_in b0 b1, a2, b2]
    rfl
  | cat x y xs h => exact mk _ _ _ _ (by simp [shF]) rfl h
  | or x y xs h => exact mk _ _ _ _ (by simp [shF]) rfl h
  | star x hx => exact mk _ _ _ _ rfl rfl (by simpa using hx)
section
variable (l : List S56) (ns : List Int) (hl : 0 < l.length) (hl2 : l.length ≤ 1000) (hk : kindsB l = true) (hn : ns.length ≤ 4611686018427387904)
include hl hl2 hk hn
theorem mnext_ev (at_ : Nat) (ha : at_ ≤ ns.length) (n : Int) (h0 : 0 < n) (h1 : n ≤ 1000000) : ∃ (v : Int) (a2 : Nat), a2 ≤ ns.length ∧ 0 ≤ v ∧ v < n ∧ canopylaw5_maker_next.f l ns (at_ : Int) n = some (v, (a2 : Int)) := by
  unfold canopylaw5_maker_next.f
  by_cases h : at_ = ns.length
  · exact ⟨0, at_, by omega, by omega, h0, by rw [if_pos (by omega)]⟩
  · have w1 : wrap64 ((at_ : Int) + 1) = ((at_ + 1 : Nat) : Int) := by unfold wrap64; omega
    have w2 : wrap64 (((at_ + 1 : Nat) : Int) - 1) = (at_ : Int) := by unfold wrap64; omega
    refine ⟨rd ns (at_ : Int) % n, at_ + 1, by omega, Int.emod_nonneg _ (by omega), Int.emod_lt_of_pos _ h0, ?_⟩
    rw [if_neg (by omega), w1, w2, if_pos (by omega), if_pos (by omega), within_eq _ _ h0 h1, Option.bind_some]
theorem pick_l0 (kind v : Int) (hv : 0 ≤ v) (hv2 : v < (l.length : Int)) (A : Int) : ∀ (d i : Nat), i + d = l.length → ∃ r : Int, (0 ≤ r → r < (l.length : Int) ∧ (rd_T56 l r).f1 = kind) ∧ Ev (fun k => canopylaw5_maker_pick.l0 k kind v (i : Int) l ns A) (r, A) := by
  intro d
  induction d with
  | zero =>
    intro i hi
    refine ⟨-1, fun h => by omega, Ev.step (fun k => rfl) ?_⟩
    exact Ev.congr (f := fun _ => some (-1, A)) (fun k => by rw [canopylaw5_maker_pick.l0, if_neg (by omega)]) (Ev.now _)
  | succ d ih =>
    intro i hi
    have w : wrap64 (v + (i : Int)) = v + i := by unfold wrap64; omega
    have t0 : Int.tmod (v + (i : Int)) (l.length : Int) = (v + i) % (l.length : Int) := Int.tmod_eq_emod_of_nonneg (by omega)
    have m0 := Int.emod_nonneg (v + (i : Int)) (show ((l.length : Nat) : Int) ≠ 0 by omega)
    have m1 := Int.emod_lt_of_pos (v + (i : Int)) (show (0 : Int) < ((l.length : Nat) : Int) by omega)
    have st : ∀ k, canopylaw5_maker_pick.l0 (k + 1) kind v (i : Int) l ns A = if (rd_T56 l ((v + (i : Int)) % (l.length : Int))).f1 = kind then some ((v + (i : Int)) % (l.length : Int), A) else canopylaw5_maker_pick.l0 k kind v (wrap64 ((i : Int) + 1)) l ns A := fun k => by
      rw [canopylaw5_maker_pick.l0, if_pos (by omega), if_neg (by omega), w, t0, if_pos m0, if_pos m1]
    by_cases h : (rd_T56 l ((v + (i : Int)) % (l.length : Int))).f1 = kind
    · exact ⟨_, fun _ => ⟨m1, h⟩, Ev.step st (Ev.congr (f := fun _ => some ((v + (i : Int)) % (l.length : Int), A)) (fun k => by rw [if_pos h]) (Ev.now _))⟩
    · obtain ⟨r, hp, hr⟩ := ih (i + 1) (by omega)
      refine ⟨r, hp, Ev.step st (Ev.congr (fun k => by rw [if_neg h, wrap_suc i l.length (by omega) (by omega)]) hr)⟩
theorem pick_ev (at_ : Nat) (ha : at_ ≤ ns.length) (kind : Int) : ∃ (r : Int) (a2 : Nat), (0 ≤ r → r < (l.length : Int) ∧ (rd_T56 l r).f1 = kind) ∧ a2 ≤ ns.length ∧ Ev (fun k => canopylaw5_maker_pick.f k l ns (at_ : Int) kind) (r, (a2 : Int)) := by
  obtain ⟨v, a2, h1, h2, h3, h4⟩ := mnext_ev l ns hl hl2 hk hn at_ ha (l.length : Int) (by omega) (by omega)
  obtain ⟨r, hp, hr⟩ := pick_l0 l ns hl hl2 hk hn kind v h2 h3 (a2 : Int) l.length 0 (by omega)
  refine ⟨r, a2, hp, h1, ?_⟩
  unfold canopylaw5_maker_pick.f
  rw [h4]
  exact hr
/-- A result of a drawing: a tree, and how far. -/
def drawn (e : S28) (a : Nat) : Int × Int × Int × List S28 × Int := (e.f0, e.f1, e.f2, e.f3, (a : Int))
def Drew (l : List S56) (F : Nat → Option (Int × Int × Int × List S28 × Int)) (m b : Nat) : Prop := ∃ (e : S28) (a : Nat), a ≤ m ∧ ((tsize e ≤ 4 ^ b ∧ Lv b e) ∧ Fit l e) ∧ Ev F (drawn e a)
omit hl hl2 hk hn in
theorem Drew.step {F G : Nat → Option (Int × Int × Int × List S28 × Int)} {m b : Nat} (h : ∀ k, F (k + 1) = G k) (d : Drew l G m b) : Drew l F m b := by
  obtain ⟨e, a, h1, h2, h3⟩ := d
  exact ⟨e, a, h1, h2, Ev.step h h3⟩
omit hl hl2 hk hn in
theorem Drew.congr {F G : Nat → Option (Int × Int × Int × List S28 × Int)} {m b : Nat} (h : ∀ k, F k = G k) (d : Drew l G m b) : Drew l F m b := by
  have : F = G := funext h
  rw [this]; exact d
omit hl hl2 hk hn in
theorem Drew.bind {α : Type} {F : Nat → Option α} {C : Nat → α → Option (Int × Int × Int × List S28 × Int)} {m b : Nat} {x : α} (h : Ev F x) (d : Drew l (fun k => C k x) m b) : Drew l (fun k => (F k).bind (C k)) m b := by
  obtain ⟨e, a, h1, h2, h3⟩ := d
  exact ⟨e, a, h1, h2, Ev.bind h h3⟩
omit hl hl2 hk hn in
theorem Drew.now (e : S28) (a m b : Nat) (h1 : a ≤ m) (h2 : (tsize e ≤ 4 ^ b ∧ Lv b e) ∧ Fit l e) : Drew l (fun _ => some (drawn e a)) m b := ⟨e, a, h1, h2, Ev.now _⟩
omit hl hl2 hk hn in
theorem fit_eta {e : S28} (h : Fit l e) : Fit l ⟨e.f0, e.f1, e.f2, e.f3⟩ := by cases e; exact h
omit hl hl2 hk hn in
theorem leaf_size (k a b : Int) : tsize ⟨k, a, b, []⟩ = 1 := by rw [tsize, tsizeL]
omit hl hl2 hk hn in
theorem one_size (k a b : Int) (x : S28) : tsize ⟨k, a, b, [⟨x.f0, x.f1, x.f2, x.f3⟩]⟩ = tsize x + 1 := by
  cases x
  rw [tsize, tsizeL, tsizeL, Nat.add_zero]
omit hl hl2 hk hn in
theorem lf (b : Nat) (k x y : Int) : tsize ⟨k, x, y, []⟩ ≤ 4 ^ b ∧ Lv b ⟨k, x, y, []⟩ := ⟨by rw [leaf_size]; exact Nat.one_le_pow _ _ (by decide), lv_leaf _ _ _ _⟩
omit hl hl2 hk hn in
theorem lv_eta {d : Nat} {e : S28} (h : Lv d e) : Lv d ⟨e.f0, e.f1, e.f2, e.f3⟩ := by cases e; exact h
theorem leaf1 (at_ : Nat) (ha : at_ ≤ ns.length) (x1 : Int) (nest : Bool) (x7 x18 : Int) (b : Nat) (hb : 0 ≤ b) : Drew l (fun k => canopylaw5_maker_make.j1 k x1 nest x7 x18 true l ns (at_ : Int)) ns.length b := by
  obtain ⟨v, a2, h1, h2, h3, h4⟩ := mnext_ev l ns hl hl2 hk hn at_ ha (l.length : Int) (by omega) (by omega)
  refine Drew.step l (fun k => rfl) ?_
  refine Drew.congr l (fun k => by rw [canopylaw5_maker_make.j1, if_pos rfl, h4, Option.bind_some]) ?_
  cases nest with
  | true =>
    obtain ⟨r, a3, hp, h5, h6⟩ := pick_ev l ns hl hl2 hk hn a2 h1 3
    refine Drew.congr l (fun k => by rw [if_pos rfl]) (Drew.bind l h6 ?_)
    by_cases hr : r ≥ 0
    · exact Drew.congr l (fun k => by rw [if_pos hr]; rfl) (Drew.now l ⟨3, r, 0, []⟩ a3 _ _ h5 ⟨lf _ _ _ _, view_fit hk (.sym r hr (hp hr).1)⟩)
    · exact Drew.congr l (fun k => by rw [if_neg hr]; rfl) (Drew.now l ⟨1, 0, 0, []⟩ a3 _ _ h5 ⟨lf _ _ _ _, view_fit hk .none⟩)
  | false =>
    exact Drew.congr l (fun k => by rw [if_neg (by decide), if_pos h2]; rfl) (Drew.now l ⟨3, v, 0, []⟩ a2 _ _ h1 ⟨lf _ _ _ _, view_fit hk (.sym v h2 h3)⟩)
/-- What stands behind: no tree below. -/
theorem rest0 (at_ : Nat) (ha : at_ ≤ ns.length) (x1 : Int) (nest : Bool) (x18 : Int) (h : ¬ (5 ≤ x18 ∧ x18 ≤ 13)) (b : Nat) (hb : 0 ≤ b) (x7 : Int) : Drew l (fun k => canopylaw5_maker_make.j1 k x1 nest x7 x18 false l ns (at_ : Int)) ns.length b := by
  refine Drew.step l (fun k => rfl) ?_
  refine Drew.congr l (fun k => by rw [canopylaw5_maker_make.j1, if_neg (by decide), if_neg (show ¬ x18 = 5 by omega), if_neg (show ¬ x18 = 6 by omega)]) ?_
  refine Drew.step l (fun k => rfl) ?_
  have e7 : (x18 == 7) = false := beq_eq_false_iff_ne.mpr (by omega)
  refine Drew.congr l (fun k => by rw [canopylaw5_maker_make.j2, e7, if_neg (by decide), if_neg (show ¬ x18 = 8 by omega), if_neg (show ¬ x18 = 9 by omega), if_neg (show ¬ x18 = 10 by omega)]) ?_
  refine Drew.step l (fun k => rfl) ?_
  have e11 : (x18 == 11) = false := beq_eq_false_iff_ne.mpr (by omega)
  exact Drew.congr l (fun k => by rw [canopylaw5_maker_make.j3, e11, if_neg (by decide), if_neg (show ¬ x18 = 12 by omega), if_neg (show ¬ x18 = 13 by omega)]; rfl) (Drew.now l ⟨1, 0, 0, []⟩ at_ _ _ ha ⟨lf _ _ _ _, view_fit hk .none⟩)
theorem make_ev : ∀ (d : Nat), d ≤ 100 → ∀ (nest : Bool) (at_ : Nat), at_ ≤ ns.length → Drew l (fun k => canopylaw5_maker_make.f k l ns (at_ : Int) (d : Int) nest) ns.length d := by
  intro d
  induction d with
  | zero =>
    intro hd nest at_ ha
    obtain ⟨v, a2, h1, h2, h3, h4⟩ := mnext_ev l ns hl hl2 hk hn at_ ha 14 (by omega) (by omega)
    refine Drew.step l (fun k => rfl) ?_
    have t5 : Int.tmod v 5 = v % 5 := Int.tmod_eq_emod_of_nonneg h2
    refine Drew.congr l (fun k => by rw [canopylaw5_maker_make.f, h4, Option.bind_some, if_pos (by omega), t5]) ?_
    have m0 := Int.emod_nonneg v (show (5 : Int) ≠ 0 by omega)
    have m1 := Int.emod_lt_of_pos v (show (0 : Int) < 5 by omega)
    generalize v % 5 = q at m0 m1
    refine Drew.step l (fun k => rfl) ?_
    by_cases q0 : q = 0
    · exact Drew.congr l (fun k => by rw [canopylaw5_maker_make.j0, if_pos q0]; rfl) (Drew.now l ⟨2, 0, 0, []⟩ a2 _ _ h1 ⟨lf _ _ _ _, view_fit hk .void⟩)
    by_cases q1 : q = 1
    · have e : (q == 1) = true := beq_iff_eq.mpr q1
      exact Drew.congr l (fun k => by rw [canopylaw5_maker_make.j0, if_neg q0, if_pos q1, e]) (leaf1 l ns hl hl2 hk hn a2 h1 _ nest _ _ _ (Nat.le_refl _))
    by_cases q2 : q = 2
    · have e : (q == 2) = true := beq_iff_eq.mpr q2
      exact Drew.congr l (fun k => by rw [canopylaw5_maker_make.j0, if_neg q0, if_neg q1, if_pos q2, e]) (leaf1 l ns hl hl2 hk hn a2 h1 _ nest _ _ _ (Nat.le_refl _))
    by_cases q3 : q = 3
    · have e : (q == 3) = true := beq_iff_eq.mpr q3
      exact Drew.congr l (fun k => by rw [canopylaw5_maker_make.j0, if_neg q0, if_neg q1, if_neg q2, e]) (leaf1 l ns hl hl2 hk hn a2 h1 _ nest _ _ _ (Nat.le_refl _))
    · have e : (q == 3) = false := beq_eq_false_iff_ne.mpr q3
      exact Drew.congr l (fun k => by rw [canopylaw5_maker_make.j0, if_neg q0, if_neg q1, if_neg q2, e]) (rest0 l ns hl hl2 hk hn a2 h1 _ nest _ (by omega) _ (Nat.le_refl _) _)
  | succ d ih =>
    intro hd nest at_ ha
    have ih := ih (by omega)
    have p1 : 1 ≤ 4 ^ d := Nat.one_le_pow _ _ (by decide)
    have p2 : 4 ^ (d + 1) = 4 * 4 ^ d := by rw [Nat.pow_succ, Nat.mul_comm]
    have wd : wrap64 (((d + 1 : Nat) : Int) - 1) = (d : Int) := by unfold wrap64; omega
    obtain ⟨v, a2, h1, h2, h3, h4⟩ := mnext_ev l ns hl hl2 hk hn at_ ha 14 (by omega) (by omega)
    refine Drew.step l (fun k => rfl) ?_
    refine Drew.congr l (fun k => by rw [canopylaw5_maker_make.f, h4, Option.bind_some, if_neg (by omega)]) ?_
    generalize v = q at h2 h3
    refine Drew.step l (fun k => rfl) ?_
    by_cases q0 : q = 0
    · exact Drew.congr l (fun k => by rw [canopylaw5_maker_make.j0, if_pos q0]; rfl) (Drew.now l ⟨2, 0, 0, []⟩ a2 _ _ h1 ⟨lf _ _ _ _, view_fit hk .void⟩)
    by_cases q1 : q = 1
    · have e : (q == 1) = true := beq_iff_eq.mpr q1
      exact Drew.congr l (fun k => by rw [canopylaw5_maker_make.j0, if_neg q0, if_pos q1, e]) (leaf1 l ns hl hl2 hk hn a2 h1 _ nest _ _ _ (by omega))
    by_cases q2 : q = 2
    · have e : (q == 2) = true := beq_iff_eq.mpr q2
      exact Drew.congr l (fun k => by rw [canopylaw5_maker_make.j0, if_neg q0, if_neg q1, if_pos q2, e]) (leaf1 l ns hl hl2 hk hn a2 h1 _ nest _ _ _ (by omega))
    by_cases q3 : q = 3
    · have e : (q == 3) = true := beq_iff_eq.mpr q3
      exact Drew.congr l (fun k => by rw [canopylaw5_maker_make.j0, if_neg q0, if_neg q1, if_neg q2, e]) (leaf1 l ns hl hl2 hk hn a2 h1 _ nest _ _ _ (by omega))
    have e3 : (q == 3) = false := beq_eq_false_iff_ne.mpr q3
    refine Drew.congr l (fun k => by rw [canopylaw5_maker_make.j0, if_neg q0, if_neg q1, if_neg q2, e3]) ?_
    by_cases q4 : q = 4
    · exact rest0 l ns hl hl2 hk hn a2 h1 _ nest _ (by omega) _ (by omega) _
    -- a nest
    have nest2 : Drew l (fun k => canopylaw5_maker_make.j2 k ((d + 1 : Nat) : Int) nest q q true l ns (a2 : Int)) ns.length (d + 1) := by
      obtain ⟨r, a3, hp, h5, h6⟩ := pick_ev l ns hl hl2 hk hn a2 h1 1
      obtain ⟨r2, a4, hp2, h7, h8⟩ := pick_ev l ns hl hl2 hk hn a3 h5 2
      refine Drew.step l (fun k => rfl) ?_
      refine Drew.congr l (fun k => by rw [canopylaw5_maker_make.j2, if_pos rfl]) ?_
      refine Drew.bind l h6 (Drew.bind l h8 ?_)
      by_cases c1 : r ≥ 0
      · by_cases c2 : r2 ≥ 0
        · obtain ⟨e, a5, h9, h10, h11⟩ := ih true a4 h7
          refine Drew.congr l (fun k => by rw [if_pos c1, if_pos c2, wd]) (Drew.bind l h11 ?_)
          exact Drew.now l ⟨4, r, r2, [⟨e.f0, e.f1, e.f2, e.f3⟩]⟩ a5 _ _ h9 ⟨⟨by rw [one_size]; have := h10.1.1; omega, Nat.le_add_left 1 2, fun x hx => by simp only [List.mem_cons, List.not_mem_nil, or_false] at hx; subst hx; exact lv_eta h10.1.2⟩, view_fit hk (.nest r r2 _ c1 (hp c1).1 (hp c1).2 c2 (hp2 c2).1 (hp2 c2).2 (fit_eta l h10.2))⟩
        · exact Drew.congr l (fun k => by rw [if_pos c1, if_neg c2]; rfl) (Drew.now l ⟨1, 0, 0, []⟩ a4 _ _ h7 ⟨lf _ _ _ _, view_fit hk .none⟩)
      · exact Drew.congr l (fun k => by rw [if_neg c1]; rfl) (Drew.now l ⟨1, 0, 0, []⟩ a4 _ _ h7 ⟨lf _ _ _ _, view_fit hk .none⟩)
    have kind56 : ∀ (x y : S28) (xs : List S28), (∀ z ∈ x :: y :: xs, Fit l z) → Fit l ⟨wrap64 (5 + Int.tmod q 2), 0, 0, x :: y :: xs⟩ := fun x y xs hxs => by
      have t2 : Int.tmod q 2 = q % 2 := Int.tmod_eq_emod_of_nonneg h2
      have m0 := Int.emod_nonneg q (show (2 : Int) ≠ 0 by omega)
      have m1 := Int.emod_lt_of_pos q (show (0 : Int) < 2 by omega)
      rw [t2]
      rcases (show q % 2 = 0 ∨ q % 2 = 1 by omega) with z | z <;> rw [z]
      · rw [show wrap64 (5 + 0) = 5 by unfold wrap64; omega]; exact view_fit hk (.cat x y xs hxs)
      · rw [show wrap64 (5 + 1) = 6 by unfold wrap64; omega]; exact view_fit hk (.or x y xs hxs)
    have rows3 : Drew l (fun k => canopylaw5_maker_make.j3 k ((d + 1 : Nat) : Int) nest q q true l ns (a2 : Int)) ns.length (d + 1) := by
      obtain ⟨e, a3, h5, h6, h7⟩ := ih nest a2 h1
      obtain ⟨e2, a4, h8, h9, h10⟩ := ih nest a3 h5
      obtain ⟨z, a5, h11, h12, h13, h14⟩ := mnext_ev l ns hl hl2 hk hn a4 h8 3 (by omega) (by omega)
      refine Drew.step l (fun k => rfl) ?_
      refine Drew.congr l (fun k => by rw [canopylaw5_maker_make.j3, if_pos rfl, wd]) ?_
      refine Drew.bind l h7 (Drew.bind l h10 ?_)
      refine Drew.congr l (fun k => by rw [Option.bind_some, show canopylaw5_maker_next.f l ns (drawn e2 a4).2.2.2.2 3 = _ from h14, Option.bind_some]) ?_
      have s2 : tsizeL [(⟨e.f0, e.f1, e.f2, e.f3⟩ : S28), ⟨e2.f0, e2.f1, e2.f2, e2.f3⟩] = tsize e + tsize e2 := by
        cases e; cases e2
        rw [tsizeL, tsizeL, tsizeL]; rfl
      by_cases c : z = 0
      · obtain ⟨e3, a6, h15, h16, h17⟩ := ih nest a5 h11
        refine Drew.congr l (fun k => by rw [if_pos c]) (Drew.bind l h17 ?_)
        refine Drew.congr l (fun k => by rw [if_pos (by simp only [List.length_cons, List.length_nil]; omega)]; rfl) (Drew.now l ⟨wrap64 (5 + Int.tmod q 2), 0, 0, [(⟨e.f0, e.f1, e.f2, e.f3⟩ : S28), ⟨e2.f0, e2.f1, e2.f2, e2.f3⟩] ++ [⟨e3.f0, e3.f1, e3.f2, e3.f3⟩]⟩ a6 _ _ h15 ?_)
        have s3 : tsize (⟨e3.f0, e3.f1, e3.f2, e3.f3⟩ : S28) = tsize e3 := by cases e3; rfl
        refine ⟨⟨?_, Nat.le_refl _, fun x hx => ?_⟩, ?_⟩
        · rw [tsize, tsizeL_snoc, s2, s3]
          have := h6.1.1; have := h9.1.1; have := h16.1.1
          omega
        · simp only [List.cons_append, List.nil_append, List.mem_cons, List.not_mem_nil, or_false] at hx
          rcases hx with rfl | rfl | rfl
          · exact lv_eta h6.1.2
          · exact lv_eta h9.1.2
          · exact lv_eta h16.1.2
        · refine kind56 _ _ [_] (fun z hz => ?_)
          simp only [List.mem_cons, List.not_mem_nil, or_false] at hz
          rcases hz with rfl | rfl | rfl
          · exact fit_eta l h6.2
          · exact fit_eta l h9.2
          · exact fit_eta l h16.2
      · exact Drew.congr l (fun k => by rw [if_neg c]; rfl) (Drew.now l ⟨wrap64 (5 + Int.tmod q 2), 0, 0, [(⟨e.f0, e.f1, e.f2, e.f3⟩ : S28), ⟨e2.f0, e2.f1, e2.f2, e2.f3⟩]⟩ a5 _ _ h11 ⟨⟨by rw [tsize, s2]; have := h6.1.1; have := h9.1.1; omega, Nat.le_succ 2, fun x hx => by
          simp only [List.mem_cons, List.not_mem_nil, or_false] at hx
          rcases hx with rfl | rfl
          · exact lv_eta h6.1.2
          · exact lv_eta h9.1.2⟩, by
          refine kind56 _ _ [] (fun z hz => ?_)
          simp only [List.mem_cons, List.not_mem_nil, or_false] at hz
          rcases hz with rfl | rfl
          · exact fit_eta l h6.2
          · exact fit_eta l h9.2⟩)
    have star : Drew l (fun k => (canopylaw5_maker_make.f k l ns (a2 : Int) (wrap64 (((d + 1 : Nat) : Int) - 1)) nest).bind fun bt787 => (some (7, 0, 0, (([(⟨bt787.1, bt787.2.1, bt787.2.2.1, bt787.2.2.2.1⟩ : S28)] : List (S28))), bt787.2.2.2.2) : Option (Int × Int × Int × List S28 × Int))) ns.length (d + 1) := by
      obtain ⟨e, a3, h5, h6, h7⟩ := ih nest a2 h1
      refine Drew.congr l (fun k => by rw [wd]) (Drew.bind l h7 ?_)
      exact Drew.now l ⟨7, 0, 0, [⟨e.f0, e.f1, e.f2, e.f3⟩]⟩ a3 _ _ h5 ⟨⟨by rw [one_size]; have := h6.1.1; omega, Nat.le_add_left 1 2, fun x hx => by simp only [List.mem_cons, List.not_mem_nil, or_false] at hx; subst hx; exact lv_eta h6.1.2⟩, view_fit hk (.star _ (fit_eta l h6.2))⟩
    refine Drew.step l (fun k => rfl) ?_
    by_cases q5 : q = 5
    · have e : (q == 5) = true := beq_iff_eq.mpr q5
      exact Drew.congr l (fun k => by rw [canopylaw5_maker_make.j1, if_neg (by decide), if_pos q5, e]) nest2
    by_cases q6 : q = 6
    · have e : (q == 6) = true := beq_iff_eq.mpr q6
      exact Drew.congr l (fun k => by rw [canopylaw5_maker_make.j1, if_neg (by decide), if_neg q5, if_pos q6, e]) nest2
    by_cases q7 : q = 7
    · have e : (q == 7) = true := beq_iff_eq.mpr q7
      exact Drew.congr l (fun k => by rw [canopylaw5_maker_make.j1, if_neg (by decide), if_neg q5, if_neg q6, e]) nest2
    have e7 : (q == 7) = false := beq_eq_false_iff_ne.mpr q7
    refine Drew.congr l (fun k => by rw [canopylaw5_maker_make.j1, if_neg (by decide), if_neg q5, if_neg q6, e7]) ?_
    refine Drew.step l (fun k => rfl) ?_
    by_cases q8 : q = 8
    · have e : (q == 8) = true := beq_iff_eq.mpr q8
      exact Drew.congr l (fun k => by rw [canopylaw5_maker_make.j2, if_neg (by decide), if_pos q8, e]) rows3
    by_cases q9 : q = 9
    · have e : (q == 9) = true := beq_iff_eq.mpr q9
      exact Drew.congr l (fun k => by rw [canopylaw5_maker_make.j2, if_neg (by decide), if_neg q8, if_pos q9, e]) rows3
    by_cases q10 : q = 10
    · have e : (q == 10) = true := beq_iff_eq.mpr q10
      exact Drew.congr l (fun k => by rw [canopylaw5_maker_make.j2, if_neg (by decide), if_neg q8, if_neg q9, if_pos q10, e]) rows3
    by_cases q11 : q = 11
    · have e : (q == 11) = true := beq_iff_eq.mpr q11
      exact Drew.congr l (fun k => by rw [canopylaw5_maker_make.j2, if_neg (by decide), if_neg q8, if_neg q9, if_neg q10, e]) rows3
    have e11 : (q == 11) = false := beq_eq_false_iff_ne.mpr q11
    refine Drew.congr l (fun k => by rw [canopylaw5_maker_make.j2, if_neg (by decide), if_neg q8, if_neg q9, if_neg q10, e11]) ?_
    refine Drew.step l (fun k => rfl) ?_
    by_cases q12 : q = 12
    · exact Drew.congr l (fun k => by rw [canopylaw5_maker_make.j3, if_neg (by decide), if_pos q12]) star
    · exact Drew.congr l (fun k => by rw [canopylaw5_maker_make.j3, if_neg (by decide), if_neg q12, if_pos (by omega)]) star
theorem Make_lv (d : Nat) (hd : d ≤ 10) : ∃ e : S28, ((tsize e ≤ 4 ^ d ∧ Lv d e) ∧ Fit l e) ∧ Ev (fun k => canopylaw5_Make.f k l ns (d : Int)) (e.f0, e.f1, e.f2, e.f3) := by
  obtain ⟨e, a, h1, h2, h3⟩ := make_ev l ns hl hl2 hk hn d (by omega) false 0 (by omega)
  refine ⟨e, h2, ?_⟩
  unfold canopylaw5_Make.f
  exact Ev.bind h3 (Ev.now _)
theorem Make_ev (d : Nat) (hd : d ≤ 10) : ∃ e : S28, (tsize e ≤ 4 ^ d ∧ Fit l e) ∧ Ev (fun k => canopylaw5_Make.f k l ns (d : Int)) (e.f0, e.f1, e.f2, e.f3) := by
  obtain ⟨e, h, h2⟩ := Make_lv l ns hl hl2 hk hn d hd
  exact ⟨e, ⟨h.1.1, h.2⟩, h2⟩
end
end Go.Proofs.YtodbnnfiadcbaaaL
