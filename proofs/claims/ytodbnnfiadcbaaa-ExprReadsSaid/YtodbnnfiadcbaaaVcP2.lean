/- Plain laws: no program in sight. -/
import Derived.Test.YtodbnnfiadcbaaaVcP1
set_option linter.unusedVariables false
set_option linter.unusedSimpArgs false
namespace Go.Proofs.YtodbnnfiadcbaaaL
open Go.RowKit Go.Proofs.Ytodbnnfiadcbaaa.P Go.Proofs.YtodbnnfiadcbaaaW.PrintWords Go.Proofs.YtodbnnfiadcbaaaW.PrintLast Go.Proofs.YtodbnnfiadcbaaaW.PrintMore
set_option linter.unusedSimpArgs false
set_option linter.unusedVariables false
/-! ### bounds -/
theorem tok_cases (t : List UInt8) : (tokAt t).1 = .eof ∨ (tokAt t).1 = .bad ∨ (∃ c, tokAt t = (.one c, 1)) ∨ (1 ≤ (tokAt t).2 ∧ ∀ c, (tokAt t).1.isOne c = false) := by
  cases t with
  | nil => exact .inl rfl
  | cons c t =>
    rw [tokAt]
    unfold tokLt
    repeat' split
    all_goals first
      | exact .inr (.inr (.inl ⟨_, rfl⟩))
      | exact .inr (.inl rfl)
      | (refine .inr (.inr (.inr ⟨?_, fun _ => rfl⟩)); first | (simp only; omega) | (rename_i h; simp [okN] at h; simp only; omega))
theorem tok_pos {t : List UInt8} (h : (tokAt t).1.isEof = false) (h2 : (tokAt t).1.K ≠ 2) : 1 ≤ (tokAt t).2 := by
  rcases tok_cases t with e | e | ⟨c, e⟩ | e
  · rw [e] at h; cases h
  · rw [e] at h2; exact absurd rfl h2
  · rw [e]; exact Nat.le_refl _
  · exact e.1
theorem nx_ge (s : List UInt8) (q : Nat) : q ≤ nx s q := Nat.le_add_right _ _
theorem nx_step {s : List UInt8} {f m : Nat} {t : Tk} (h : tokAt (s.drop f) = (t, m)) (h1 : t.isEof = false) (h2 : t.K ≠ 2) (hf : f ≤ s.length) : f < nx s (f + m) ∧ nx s (f + m) ≤ s.length := by
  have a := tok_pos (t := s.drop f) (by rw [h]; exact h1) (by rw [h]; exact h2)
  have b := tok_le s f hf
  rw [h] at a b
  have c := nx_ge s (f + m)
  have d := nx_le s (f + m) b
  simp only at a
  exact ⟨by omega, d⟩
theorem one_step {s : List UInt8} {f : Nat} {c : UInt8} (h : (tokAt (s.drop f)).1.isOne c = true) (hf : f ≤ s.length) : f < nx s (f + 1) ∧ nx s (f + 1) ≤ s.length ∧ tokAt (s.drop f) = (.one c, 1) := by
  have key : ∀ t : List UInt8, (tokAt t).1.isOne c = true → tokAt t = (.one c, 1) := by
    intro t ht
    rcases tok_cases t with e | e | ⟨b, e⟩ | e
    · rw [e] at ht; cases ht
    · rw [e] at ht; cases ht
    · rw [e] at ht ⊢
      simp only [Tk.isOne, beq_iff_eq] at ht
      rw [ht]
    · rw [e.2 c] at ht; cases ht
  have e := key _ h
  have := nx_step e rfl (by simp [Tk.K]) hf
  exact ⟨this.1, this.2, e⟩
theorem several_size {k : Int} {xs : List S28} {B0 : Nat} (h0 : xs ≠ []) (h : tsizeL xs + xs.length ≤ B0) : tsize (severalT k xs) + 1 ≤ B0 := by
  unfold severalT
  split
  · rw [tsizeL, tsizeL] at h
    simpa using h
  · rename_i h1
    cases xs with
    | nil => exact absurd rfl h0
    | cons x xs =>
      cases xs with
      | nil => exact absurd rfl (h1 x)
      | cons y ys =>
        rw [tsize]
        simp only [List.length_cons] at h
        omega
theorem tsizeL_snoc (x : S28) : ∀ xs : List S28, tsizeL (xs ++ [x]) = tsizeL xs + tsize x
  | [] => by simp [tsizeL]
  | y :: ys => by rw [List.cons_append, tsizeL, tsizeL, tsizeL_snoc x ys]; omega
theorem Rs.and_ok {r : Option Rs} {g : S28 → Nat → Option Rs} {v : S28} {p : Nat} (h : Rs.and r g = some (.ok v p)) : ∃ x q, r = some (.ok x q) ∧ g x q = some (.ok v p) := by
  cases r with
  | none => simp [Rs.and] at h
  | some r =>
    cases r with
    | ok x q => exact ⟨x, q, rfl, h⟩
    | err e q => simp [Rs.and] at h
section
variable (l : List S56) (s : List UInt8)
structure Bnd (n : Nat) : Prop where
  atom : ∀ d f v g, f ≤ s.length → aAtom l s n d f = some (.ok v g) → tsize v + 1 + 2 * f ≤ 2 * g ∧ g ≤ s.length
  rep : ∀ d f v g, f ≤ s.length → aRep l s n d f = some (.ok v g) → tsize v + 1 + 2 * f ≤ 2 * g ∧ g ≤ s.length
  cat : ∀ d f v g, f ≤ s.length → aCat l s n d f = some (.ok v g) → tsize v + 1 + 2 * f ≤ 2 * g ∧ g ≤ s.length
  or : ∀ d f v g, f ≤ s.length → aOr l s n d f = some (.ok v g) → tsize v + 1 + 2 * f ≤ 2 * g ∧ g ≤ s.length
  stars : ∀ f0 x f v g, f ≤ s.length → tsize x + 1 + 2 * f0 ≤ 2 * f → aStars l s n x f = some (.ok v g) → tsize v + 1 + 2 * f0 ≤ 2 * g ∧ g ≤ s.length
  cats : ∀ f0 d acc f v g, f ≤ s.length → acc ≠ [] → tsizeL acc + acc.length + 2 * f0 ≤ 2 * f → aCats l s n d acc f = some (.ok v g) → tsize v + 1 + 2 * f0 ≤ 2 * g ∧ g ≤ s.length
  ors : ∀ f0 d acc f v g, f ≤ s.length → acc ≠ [] → tsizeL acc + acc.length + 2 * f0 ≤ 2 * f → aOrs l s n d acc f = some (.ok v g) → tsize v + 1 + 2 * f0 ≤ 2 * g ∧ g ≤ s.length
theorem bnd : ∀ n, Bnd l s n
  | 0 => by constructor <;> intros <;> simp_all [aAtom, aRep, aCat, aOr, aStars, aCats, aOrs]
  | n + 1 => by
    have ih := bnd n
    constructor
    · intro d f v g hf h
      rw [aAtom] at h
      split at h
      · rename_i c m ht
        split at h
        · rename_i hc
          subst hc
          injection h with h; injection h with h1 h2
          subst h1; subst h2
          have := one_step (s := s) (f := f) (c := 48) (by rw [ht]; rfl) hf
          rw [tsize, tsizeL]; omega
        · split at h
          · rename_i _ hc
            subst hc
            injection h with h; injection h with h1 h2
            subst h1; subst h2
            have := one_step (s := s) (f := f) (c := 49) (by rw [ht]; rfl) hf
            rw [tsize, tsizeL]; omega
          · split at h
            · rename_i _ _ hc
              subst hc
              split at h
              · simp at h
              · obtain ⟨x, q, h1, h2⟩ := Rs.and_ok h
                have a := one_step (s := s) (f := f) (c := 40) (by rw [ht]; rfl) hf
                have b := ih.or _ _ _ _ a.2.1 h1
                split at h2
                · rename_i hq
                  injection h2 with h2; injection h2 with h3 h4
                  subst h3; subst h4
                  have e := one_step hq b.2
                  omega
                · simp at h2
            · simp at h
      · rename_i nm k m ht
        split at h
        · injection h with h; injection h with h1 h2
          subst h1; subst h2
          have := nx_step ht rfl (by simp [Tk.K]) hf
          rw [tsize, tsizeL]; omega
        · simp at h
      · rename_i nm m ht
        split at h
        · simp at h
        · split at h
          · simp at h
          · obtain ⟨x, q, h1, h2⟩ := Rs.and_ok h
            have a := nx_step ht rfl (by simp [Tk.K]) hf
            have b := ih.or _ _ _ _ a.2 h1
            split at h2
            · rename_i nm2 m2 ht2
              split at h2
              · injection h2 with h2; injection h2 with h3 h4
                subst h3; subst h4
                have e := nx_step ht2 rfl (by simp [Tk.K]) b.2
                rw [tsize, tsizeL, tsizeL]; omega
              · simp at h2
            · simp at h2
      · simp at h
    · intro d f v g hf h
      rw [aRep] at h
      obtain ⟨x, q, h1, h2⟩ := Rs.and_ok h
      have a := ih.atom _ _ _ _ hf h1
      exact ih.stars f x q v g a.2 a.1 h2
    · intro d f v g hf h
      rw [aCat] at h
      obtain ⟨x, q, h1, h2⟩ := Rs.and_ok h
      have a := ih.rep _ _ _ _ hf h1
      exact ih.cats f d [x] q v g a.2 (by simp) (by rw [tsizeL, tsizeL]; simp only [List.length_singleton]; omega) h2
    · intro d f v g hf h
      rw [aOr] at h
      obtain ⟨x, q, h1, h2⟩ := Rs.and_ok h
      have a := ih.cat _ _ _ _ hf h1
      exact ih.ors f d [x] q v g a.2 (by simp) (by rw [tsizeL, tsizeL]; simp only [List.length_singleton]; omega) h2
    · intro f0 x f v g hf h0 h
      rw [aStars] at h
      split at h
      · rename_i hq
        have a := one_step hq hf
        exact ih.stars f0 _ _ v g a.2.1 (by rw [tsize, tsizeL, tsizeL]; omega) h
      · injection h with h; injection h with h1 h2
        subst h1; subst h2
        exact ⟨h0, hf⟩
    · intro f0 d acc f v g hf hne h0 h
      rw [aCats] at h
      split at h
      · obtain ⟨x, q, h1, h2⟩ := Rs.and_ok h
        have a := ih.rep _ _ _ _ hf h1
        exact ih.cats f0 d _ q v g a.2 (by simp) (by rw [tsizeL_snoc, List.length_append, List.length_singleton]; omega) h2
      · injection h with h; injection h with h1 h2
        subst h1; subst h2
        have := several_size (k := 5) (B0 := 2 * f - 2 * f0) hne (by omega)
        have : 1 ≤ tsizeL acc := by
          cases acc with
          | nil => exact absurd rfl hne
          | cons x xs => rw [tsizeL, tsize_eq]; omega
        omega
    · intro f0 d acc f v g hf hne h0 h
      rw [aOrs] at h
      split at h
      · rename_i hq
        have b := one_step hq hf
        obtain ⟨x, q, h1, h2⟩ := Rs.and_ok h
        have a := ih.cat _ _ _ _ b.2.1 h1
        exact ih.ors f0 d _ q v g a.2 (by simp) (by rw [tsizeL_snoc, List.length_append, List.length_singleton]; omega) h2
      · injection h with h; injection h with h1 h2
        subst h1; subst h2
        have := several_size (k := 6) (B0 := 2 * f - 2 * f0) hne (by omega)
        have : 1 ≤ tsizeL acc := by
          cases acc with
          | nil => exact absurd rfl hne
          | cons x xs => rw [tsizeL, tsize_eq]; omega
        omega
end
/-! ### rounds -/
abbrev PR := Int × Int × Int × List S28 × PS
def nextW (k : Nat) (l : List S56) (σ : PS) : Option PS := expr_parser_next.f k l σ.1 σ.2.1 σ.2.2.1 σ.2.2.2.1 σ.2.2.2.2.1 σ.2.2.2.2.2.1 σ.2.2.2.2.2.2.1 σ.2.2.2.2.2.2.2.1 σ.2.2.2.2.2.2.2.2.1 σ.2.2.2.2.2.2.2.2.2
def withinW (k : Nat) (l : List S56) (σ : PS) : Option PR := expr_parser_within.f k l σ.1 σ.2.1 σ.2.2.1 σ.2.2.2.1 σ.2.2.2.2.1 σ.2.2.2.2.2.1 σ.2.2.2.2.2.2.1 σ.2.2.2.2.2.2.2.1 σ.2.2.2.2.2.2.2.2.1 σ.2.2.2.2.2.2.2.2.2
def within0W (k : Nat) (l : List S56) (σ : PS) : Option PR := expr_parser_within.j0 k l σ.1 σ.2.1 σ.2.2.1 σ.2.2.2.1 σ.2.2.2.2.1 σ.2.2.2.2.2.1 σ.2.2.2.2.2.2.1 σ.2.2.2.2.2.2.2.1 σ.2.2.2.2.2.2.2.2.1 σ.2.2.2.2.2.2.2.2.2
def atomW (k : Nat) (l : List S56) (σ : PS) : Option PR := expr_parser_atom.f k l σ.1 σ.2.1 σ.2.2.1 σ.2.2.2.1 σ.2.2.2.2.1 σ.2.2.2.2.2.1 σ.2.2.2.2.2.2.1 σ.2.2.2.2.2.2.2.1 σ.2.2.2.2.2.2.2.2.1 σ.2.2.2.2.2.2.2.2.2
def repW (k : Nat) (l : List S56) (σ : PS) : Option PR := expr_parser_rep.f k l σ.1 σ.2.1 σ.2.2.1 σ.2.2.2.1 σ.2.2.2.2.1 σ.2.2.2.2.2.1 σ.2.2.2.2.2.2.1 σ.2.2.2.2.2.2.2.1 σ.2.2.2.2.2.2.2.2.1 σ.2.2.2.2.2.2.2.2.2
def catW (k : Nat) (l : List S56) (σ : PS) : Option PR := expr_parser_cat.f k l σ.1 σ.2.1 σ.2.2.1 σ.2.2.2.1 σ.2.2.2.2.1 σ.2.2.2.2.2.1 σ.2.2.2.2.2.2.1 σ.2.2.2.2.2.2.2.1 σ.2.2.2.2.2.2.2.2.1 σ.2.2.2.2.2.2.2.2.2
def orW (k : Nat) (l : List S56) (σ : PS) : Option PR := expr_parser_or.f k l σ.1 σ.2.1 σ.2.2.1 σ.2.2.2.1 σ.2.2.2.2.1 σ.2.2.2.2.2.1 σ.2.2.2.2.2.2.1 σ.2.2.2.2.2.2.2.1 σ.2.2.2.2.2.2.2.2.1 σ.2.2.2.2.2.2.2.2.2
def symW (k : Nat) (l : List S56) (σ : PS) : Option (Int × PS) := expr_parser_sym.f k l σ.1 σ.2.1 σ.2.2.1 σ.2.2.2.1 σ.2.2.2.2.1 σ.2.2.2.2.2.1 σ.2.2.2.2.2.2.1 σ.2.2.2.2.2.2.2.1 σ.2.2.2.2.2.2.2.2.1 σ.2.2.2.2.2.2.2.2.2
def repL (k : Nat) (l : List S56) (σ : PS) (x : S28) : Option PR := expr_parser_rep.l0 k l σ.1 σ.2.1 σ.2.2.1 σ.2.2.2.1 σ.2.2.2.2.1 σ.2.2.2.2.2.1 σ.2.2.2.2.2.2.1 σ.2.2.2.2.2.2.2.1 σ.2.2.2.2.2.2.2.2.1 σ.2.2.2.2.2.2.2.2.2 x.f0 x.f1 x.f2 x.f3
def catL (k : Nat) (acc : List S28) (l : List S56) (σ : PS) : Option PR := expr_parser_cat.l0 k acc l σ.1 σ.2.1 σ.2.2.1 σ.2.2.2.1 σ.2.2.2.2.1 σ.2.2.2.2.2.1 σ.2.2.2.2.2.2.1 σ.2.2.2.2.2.2.2.1 σ.2.2.2.2.2.2.2.2.1 σ.2.2.2.2.2.2.2.2.2
def orL (k : Nat) (acc : List S28) (l : List S56) (σ : PS) : Option PR := expr_parser_or.l0 k acc l σ.1 σ.2.1 σ.2.2.1 σ.2.2.2.1 σ.2.2.2.2.1 σ.2.2.2.2.2.1 σ.2.2.2.2.2.2.1 σ.2.2.2.2.2.2.2.1 σ.2.2.2.2.2.2.2.2.1 σ.2.2.2.2.2.2.2.2.2
def orJ (k : Nat) (acc : List S28) (b : Bool) (l : List S56) (σ : PS) : Option PR := expr_parser_or.j1 k acc b l σ.1 σ.2.1 σ.2.2.1 σ.2.2.2.1 σ.2.2.2.2.1 σ.2.2.2.2.2.1 σ.2.2.2.2.2.2.1 σ.2.2.2.2.2.2.2.1 σ.2.2.2.2.2.2.2.2.1 σ.2.2.2.2.2.2.2.2.2
def isB (σ : PS) (c : Int) : Bool := σ.2.2.2.1 == 3 && ((σ.2.2.2.2.1.toList == ([] : List UInt8) && (σ.2.2.2.2.2.1 == 0)) && (σ.2.2.2.2.2.2.1 == c))
def errOf (σ : PS) : Int := σ.2.2.2.2.2.2.2.2.1
def wrongS (σ : PS) (e : Int) : PS := if errOf σ = 0 then (σ.1, σ.2.1, σ.2.2.1, σ.2.2.2.1, σ.2.2.2.2.1, σ.2.2.2.2.2.1, σ.2.2.2.2.2.2.1, σ.2.2.2.2.2.2.2.1, e, σ.2.1) else σ
def deepBy (σ : PS) (i : Int) : PS := (σ.1, σ.2.1, σ.2.2.1, σ.2.2.2.1, σ.2.2.2.2.1, σ.2.2.2.2.2.1, σ.2.2.2.2.2.2.1, wrap64 (σ.2.2.2.2.2.2.2.1 + i), σ.2.2.2.2.2.2.2.2.1, σ.2.2.2.2.2.2.2.2.2)
def res (x : S28) (σ : PS) : PR := (x.f0, x.f1, x.f2, x.f3, σ)
def exOf (r : PR) : S28 := ⟨r.1, r.2.1, r.2.2.1, r.2.2.2.1⟩
def begB (σ : PS) : Bool := isB σ 48 || isB σ 49 || isB σ 40 || σ.2.2.2.1 == 4 || σ.2.2.2.1 == 5
theorem is_eq (l : List S56) (a : ByteArray) (b c d : Int) (e : ByteArray) (f g h i j ch : Int) : expr_parser_is.f l a b c d e f g h i j ch = some (isB (a, b, c, d, e, f, g, h, i, j) ch, a, b, c, d, e, f, g, h, i, j) := rfl
theorem wrong_eq (l : List S56) (a : ByteArray) (b c d : Int) (e : ByteArray) (f g h i j ch : Int) : expr_parser_wrong.f l a b c d e f g h i j ch = some (wrongS (a, b, c, d, e, f, g, h, i, j) ch) := by
  unfold expr_parser_wrong.f wrongS
  show _ = some (if i = 0 then _ else _)
  split <;> rfl
theorem begins_eq (l : List S56) (a : ByteArray) (b c d : Int) (e : ByteArray) (f g h i j : Int) : expr_parser_begins.f l a b c d e f g h i j = some (begB (a, b, c, d, e, f, g, h, i, j), a, b, c, d, e, f, g, h, i, j) := by
  unfold expr_parser_begins.f begB
  simp only [is_eq, Option.bind_some]
  cases isB (a, b, c, d, e, f, g, h, i, j) 48 <;> cases isB (a, b, c, d, e, f, g, h, i, j) 49 <;> cases isB (a, b, c, d, e, f, g, h, i, j) 40 <;> simp
  by_cases h4 : d = 4 <;> simp [h4]
theorem several_eq (k : Int) (xs : List S28) (h : xs ≠ []) : expr_several.f k xs = some ((severalT k xs).f0, (severalT k xs).f1, (severalT k xs).f2, (severalT k xs).f3) := by
  unfold expr_several.f severalT
  cases xs with
  | nil => exact absurd rfl h
  | cons x t =>
    cases t with
    | nil => simp [rd_T28]
    | cons y ys =>
      rw [if_neg (by simp only [List.length_cons]; omega), Int.toNat_natCast, List.take_length]
section
variable (k : Nat) (l : List S56) (σ : PS)
theorem within_step : withinW (k + 1) l σ = if σ.2.2.2.2.2.2.2.1 > 40 then within0W k l (wrongS σ 3) else within0W k l σ := by
  unfold withinW within0W
  rw [expr_parser_within.f]
  simp only [wrong_eq, Option.bind_some]
theorem within0_step : within0W (k + 1) l σ = if errOf σ = 0 then (nextW k l (deepBy σ 1)).bind fun τ => (orW k l τ).bind fun r => some (r.1, r.2.1, r.2.2.1, r.2.2.2.1, deepBy r.2.2.2.2 (-1)) else some (0, 0, 0, [], σ) := by
  unfold within0W
  rw [expr_parser_within.j0]
  rfl
theorem atom_step : atomW (k + 1) l σ = if isB σ 48 = true then (nextW k l σ).bind fun τ => some (res ⟨1, 0, 0, []⟩ τ)
    else if isB σ 49 = true then (nextW k l σ).bind fun τ => some (res ⟨2, 0, 0, []⟩ τ)
    else if isB σ 40 = true then (withinW k l σ).bind fun r => if isB r.2.2.2.2 41 = true then (nextW k l r.2.2.2.2).bind fun τ => some (res (exOf r) τ) else (nextW k l (wrongS r.2.2.2.2 1)).bind fun τ => some (res (exOf r) τ)
    else if σ.2.2.2.1 = 4 then (symW k l σ).bind fun z => (nextW k l z.2).bind fun τ => some (res ⟨3, z.1, 0, []⟩ τ)
    else if σ.2.2.2.1 = 5 then (symW k l σ).bind fun z => (withinW k l z.2).bind fun r => if r.2.2.2.2.2.2.2.1 = 6 then (symW k l r.2.2.2.2).bind fun y => (nextW k l y.2).bind fun τ => some (res ⟨4, z.1, y.1, [exOf r]⟩ τ) else (nextW k l (wrongS r.2.2.2.2 1)).bind fun τ => some (res ⟨4, z.1, 0, [exOf r]⟩ τ)
    else (nextW k l (wrongS σ 1)).bind fun τ => some (res ⟨0, 0, 0, []⟩ τ) := by
  unfold atomW
  rw [expr_parser_atom.f]
  simp only [is_eq, wrong_eq, Option.bind_some]
  rfl
theorem rep_step : repW (k + 1) l σ = (atomW k l σ).bind fun r => repL k l r.2.2.2.2 (exOf r) := by
  unfold repW
  rw [expr_parser_rep.f]
  rfl
theorem repL_step (x : S28) : repL (k + 1) l σ x = if errOf σ = 0 then (if isB σ 42 = true then (nextW k l σ).bind fun τ => repL k l τ ⟨7, 0, 0, [x]⟩ else some (res x σ)) else some (res x σ) := by
  cases x
  unfold repL
  rw [expr_parser_rep.l0]
  simp only [is_eq, Option.bind_some]
  rfl
theorem cat_step : catW (k + 1) l σ = (repW k l σ).bind fun r => catL k [exOf r] l r.2.2.2.2 := by
  unfold catW
  rw [expr_parser_cat.f]
  rfl
theorem catL_step (acc : List S28) (h : acc ≠ []) : catL (k + 1) acc l σ = if errOf σ = 0 then (if begB σ = true then (repW k l σ).bind fun r => if acc.length < 2932031007402 then catL k (acc ++ [exOf r]) l r.2.2.2.2 else none else some (res (severalT 5 acc) σ)) else some (res (severalT 5 acc) σ) := by
  unfold catL
  rw [expr_parser_cat.l0]
  simp only [begins_eq, Option.bind_some, several_eq 5 acc h]
  rfl
theorem or_step : orW (k + 1) l σ = (catW k l σ).bind fun r => orL k [exOf r] l r.2.2.2.2 := by
  unfold orW
  rw [expr_parser_or.f]
  rfl
theorem orL_step (acc : List S28) : orL (k + 1) acc l σ = if errOf σ = 0 then orJ k acc (isB σ 124) l σ else orJ k acc false l σ := by
  unfold orL
  rw [expr_parser_or.l0]
  simp only [is_eq, Option.bind_some]
  rfl
theorem orJ_step (acc : List S28) (b : Bool) (h : acc ≠ []) : orJ (k + 1) acc b l σ = if b = true then (nextW k l σ).bind fun τ => (catW k l τ).bind fun r => if acc.length < 2932031007402 then orL k (acc ++ [exOf r]) l r.2.2.2.2 else none else some (res (severalT 6 acc) σ) := by
  unfold orJ
  rw [expr_parser_or.j1]
  simp only [Option.bind_some, several_eq 6 acc h]
  rfl
end
end Go.Proofs.YtodbnnfiadcbaaaL
namespace Go.Proofs.YtodbnnfiadcbaaaL
open Go.RowKit Go.Proofs.Ytodbnnfiadcbaaa.P Go.Proofs.YtodbnnfiadcbaaaW.PrintWords Go.Proofs.YtodbnnfiadcbaaaW.PrintLast Go.Proofs.YtodbnnfiadcbaaaW.PrintMore
set_option linter.unusedSimpArgs false
set_option linter.unusedVariables false
section
variable {l : List S56} {s : ByteArray}
theorem st_is {f m : Nat} {t : Tk} {d e p ch : Int} {c : UInt8} (ht : tokAt ((L s).drop f) = (t, m)) (hc : ch = (c.toNat : Int)) : isB (st s f d e p) ch = t.isOne c := by
  have h1 : isB (st s f d e p) ch = (t.K == 3 && ((t.N.toList == ([] : List UInt8) && (t.S == 0)) && (t.C == ch))) := by
    unfold isB st stT
    rw [ht]
  rw [h1, hc]
  cases t with
  | one b =>
    show ((3 : Int) == 3 && (((⟨#[]⟩ : ByteArray).toList == ([] : List UInt8) && ((0 : Int) == 0)) && ((b.toNat : Int) == (c.toNat : Int)))) = (b == c)
    rw [toL, Lnil]
    have : ((b.toNat : Int) == (c.toNat : Int)) = (b == c) := by
      rw [Bool.eq_iff_iff]
      simp only [beq_iff_eq]
      constructor
      · intro h; exact UInt8.toNat_inj.1 (by omega)
      · intro h; rw [h]
    rw [this]
    rfl
  | _ => rfl
theorem st_K {f m : Nat} {t : Tk} {d e p : Int} (ht : tokAt ((L s).drop f) = (t, m)) : (st s f d e p).2.2.2.1 = t.K := by unfold st; rw [ht]; rfl
theorem st_beg {f m : Nat} {t : Tk} {d e p : Int} (ht : tokAt ((L s).drop f) = (t, m)) : begB (st s f d e p) = t.begins := by
  unfold begB
  rw [st_is (ch := 48) (c := 48) ht rfl, st_is (ch := 49) (c := 49) ht rfl, st_is (ch := 40) (c := 40) ht rfl, st_K ht]
  cases t with
  | one b => simp [Tk.isOne, Tk.begins, Tk.K]
  | _ => rfl
theorem wrong_st (f : Nat) (d e : Int) : wrongS (st s f d 0 0) e = st s f d e (f : Int) := rfl
theorem wrong_no {f : Nat} {d e p e2 : Int} (h : e ≠ 0) : wrongS (st s f d e p) e2 = st s f d e p := by
  unfold wrongS
  exact if_neg h
theorem nextW_st (hs : s.size ≤ 2000) {f m : Nat} {t : Tk} {d e p : Int} (ht : tokAt ((L s).drop f) = (t, m)) (hf : f ≤ s.size) : Ev (fun k => nextW k l (st s f d e p)) (st s (nx (L s) (f + m)) d e p) := by
  have h := tok_le (L s) f (by rw [L_len]; exact hf)
  rw [ht, L_len] at h
  have := next_ev l s hs (f + m) h (st s f d e p).2.1 (st s f d e p).2.2.2.1 (st s f d e p).2.2.2.2.1 (st s f d e p).2.2.2.2.2.1 (st s f d e p).2.2.2.2.2.2.1 d e p
  have e1 : ((f + m : Nat) : Int) = (st s f d e p).2.2.1 := by unfold st; rw [ht]; rfl
  rw [e1] at this
  exact this
theorem nx_fit {f m : Nat} {t : Tk} (ht : tokAt ((L s).drop f) = (t, m)) (hf : f ≤ s.size) : nx (L s) (f + m) ≤ s.size := by
  have h := tok_le (L s) f (by rw [L_len]; exact hf)
  rw [ht] at h
  have := nx_le (L s) (f + m) h
  rwa [L_len] at this
/-! symbols -/
theorem sym_l0 (hl : l.length ≤ 1000) (σ : PS) (nm : List UInt8) (hn : σ.2.2.2.2.1 = B nm) : ∀ (m i : Nat), i + m = l.length →
    Ev (fun k => expr_parser_sym.l0 k l (l.length : Int) (i : Int) l σ.1 σ.2.1 σ.2.2.1 σ.2.2.2.1 σ.2.2.2.2.1 σ.2.2.2.2.2.1 σ.2.2.2.2.2.2.1 σ.2.2.2.2.2.2.2.1 σ.2.2.2.2.2.2.2.2.1 σ.2.2.2.2.2.2.2.2.2)
      (match findT (l.drop i) nm σ.2.2.2.2.2.1 i with | some j => (j, σ) | none => (0, wrongS σ 6)) := by
  intro m
  induction m with
  | zero =>
    intro i hi
    rw [List.drop_eq_nil_of_le (by omega)]
    refine Ev.step (fun k => rfl) ?_
    refine Ev.congr (f := fun _ => some (0, wrongS σ 6)) (fun k => ?_) (Ev.now _)
    rw [expr_parser_sym.l0, if_neg (by omega), wrong_eq, Option.bind_some]
  | succ m ih =>
    intro i hi
    have hlt : i < l.length := by omega
    have hr : rd_T56 l (i : Int) = l[i] := rd56_get hlt
    rw [List.drop_eq_getElem_cons hlt, findT]
    refine Ev.step (fun k => rfl) ?_
    have hb : (((rd_T56 l (i : Int)).f0.toList == σ.2.2.2.2.1.toList && ((rd_T56 l (i : Int)).f1 == σ.2.2.2.2.2.1)) = true) ↔ (l[i].f0.data.toList = nm ∧ l[i].f1 = σ.2.2.2.2.2.1) := by
      rw [hr, hn, toL, toL, L_B, Bool.and_eq_true, beq_iff_eq, beq_iff_eq]
      exact Iff.rfl
    by_cases h : l[i].f0.data.toList = nm ∧ l[i].f1 = σ.2.2.2.2.2.1
    · rw [if_pos h]
      exact Ev.congr (f := fun _ => some ((i : Int), σ)) (fun k => by rw [expr_parser_sym.l0, if_pos (by omega), if_pos (by omega), if_pos (by omega), if_pos (hb.mpr h)]) (Ev.now _)
    · rw [if_neg h]
      refine Ev.congr (fun k => by rw [expr_parser_sym.l0, if_pos (by omega), if_pos (by omega), if_pos (by omega), if_neg (fun q => h (hb.mp q)), wrap_suc i l.length hlt (by omega)]) ?_
      exact ih (i + 1) (by omega)
theorem symW_st (hl : l.length ≤ 1000) {f m : Nat} {t : Tk} {nm : List UInt8} {k9 d e p : Int} (ht : tokAt ((L s).drop f) = (t, m)) (hN : t.N = B nm) (hS : t.S = k9) : Ev (fun k => symW k l (st s f d e p)) (match findT l nm k9 0 with | some j => (j, st s f d e p) | none => (0, wrongS (st s f d e p) 6)) := by
  have := sym_l0 hl (st s f d e p) nm (by unfold st; rw [ht]; exact hN) l.length 0 (by omega)
  have e2 : (st s f d e p).2.2.2.2.2.1 = k9 := by unfold st; rw [ht]; exact hS
  rw [List.drop_zero, e2] at this
  have e3 := this
  unfold symW expr_parser_sym.f
  rw [← e2] at e3 ⊢
  exact e3
/-! what comes out -/
def Out (s : ByteArray) (d : Int) (F : Nat → Option PR) : Rs → Prop
  | .ok v g => g ≤ s.size ∧ Ev F (res v (st s g d 0 0))
  | .err e p => e ≠ 0 ∧ ∃ x g, g ≤ s.size ∧ Ev F (res x (st s g d e (p : Int)))
theorem Out.step {d : Int} {F G : Nat → Option PR} {r : Rs} (h : ∀ k, F (k + 1) = G k) (o : Out s d G r) : Out s d F r := by
  cases r with
  | ok v g => exact ⟨o.1, Ev.step h o.2⟩
  | err e p => obtain ⟨o1, x, g, o2, o3⟩ := o; exact ⟨o1, x, g, o2, Ev.step h o3⟩
theorem Out.congr {d : Int} {F G : Nat → Option PR} {r : Rs} (h : ∀ k, F k = G k) (o : Out s d G r) : Out s d F r := by
  have : F = G := funext h
  rw [this]; exact o
theorem Out.bind {α : Type} {d : Int} {F : Nat → Option α} {C : Nat → α → Option PR} {a : α} {r : Rs} (h : Ev F a) (o : Out s d (fun k => C k a) r) : Out s d (fun k => (F k).bind (C k)) r := by
  cases r with
  | ok v g => exact ⟨o.1, Ev.bind h o.2⟩
  | err e p => obtain ⟨o1, x, g, o2, o3⟩ := o; exact ⟨o1, x, g, o2, Ev.bind h o3⟩
theorem Rs.and_cases {r : Option Rs} {g : S28 → Nat → Option Rs} {v : Rs} (h : Rs.and r g = some v) : (∃ x q, r = some (.ok x q) ∧ g x q = some v) ∨ (∃ e p, r = some (.err e p) ∧ v = .err e p) := by
  cases r with
  | none => simp [Rs.and] at h
  | some r =>
    cases r with
    | ok x q => exact .inl ⟨x, q, rfl, h⟩
    | err e q => exact .inr ⟨e, q, rfl, by simpa [Rs.and] using h.symm⟩
structure Sim (l : List S56) (s : ByteArray) (n : Nat) : Prop where
  atom : ∀ (d f : Nat) r, f ≤ s.size → d ≤ 41 → aAtom l (L s) n d f = some r → Out s d (fun k => atomW k l (st s f d 0 0)) r
  rep : ∀ (d f : Nat) r, f ≤ s.size → d ≤ 41 → aRep l (L s) n d f = some r → Out s d (fun k => repW k l (st s f d 0 0)) r
  cat : ∀ (d f : Nat) r, f ≤ s.size → d ≤ 41 → aCat l (L s) n d f = some r → Out s d (fun k => catW k l (st s f d 0 0)) r
  or : ∀ (d f : Nat) r, f ≤ s.size → d ≤ 41 → aOr l (L s) n d f = some r → Out s d (fun k => orW k l (st s f d 0 0)) r
  stars : ∀ (d f : Nat) x r, f ≤ s.size → aStars l (L s) n x f = some r → Out s d (fun k => repL k l (st s f d 0 0) x) r
  cats : ∀ (d f : Nat) acc r, f ≤ s.size → d ≤ 41 → acc ≠ [] → acc.length ≤ f → aCats l (L s) n d acc f = some r → Out s d (fun k => catL k acc l (st s f d 0 0)) r
  ors : ∀ (d f : Nat) acc r, f ≤ s.size → d ≤ 41 → acc ≠ [] → acc.length ≤ f → aOrs l (L s) n d acc f = some r → Out s d (fun k => orL k acc l (st s f d 0 0)) r
theorem repL_err {σ : PS} (x : S28) (h : errOf σ ≠ 0) : Ev (fun k => repL k l σ x) (res x σ) :=
  Ev.step (fun k => repL_step k l σ x) (Ev.congr (f := fun _ => some (res x σ)) (fun k => by rw [if_neg h]) (Ev.now _))
theorem catL_err {σ : PS} {acc : List S28} (ha : acc ≠ []) (h : errOf σ ≠ 0) : Ev (fun k => catL k acc l σ) (res (severalT 5 acc) σ) :=
  Ev.step (fun k => catL_step k l σ acc ha) (Ev.congr (f := fun _ => some (res (severalT 5 acc) σ)) (fun k => by rw [if_neg h]) (Ev.now _))
theorem orL_err {σ : PS} {acc : List S28} (ha : acc ≠ []) (h : errOf σ ≠ 0) : Ev (fun k => orL k acc l σ) (res (severalT 6 acc) σ) :=
  Ev.step (fun k => orL_step k l σ acc) (Ev.congr (f := fun k => orJ k acc false l σ) (fun k => by rw [if_neg h]) (Ev.step (fun k => orJ_step k l σ acc false ha) (Ev.congr (f := fun _ => some (res (severalT 6 acc) σ)) (fun k => by rw [if_neg (by decide)]) (Ev.now _))))
theorem within_err {f : Nat} {d e p : Int} (h : e ≠ 0) : Ev (fun k => withinW k l (st s f d e p)) (res ⟨0, 0, 0, []⟩ (st s f d e p)) := by
  refine Ev.step (fun k => within_step k l _) ?_
  rw [wrong_no h]
  refine Ev.congr (f := fun k => within0W k l (st s f d e p)) (fun k => by split <;> rfl) ?_
  refine Ev.step (fun k => within0_step k l _) ?_
  exact Ev.congr (f := fun _ => some (res ⟨0, 0, 0, []⟩ (st s f d e p))) (fun k => by rw [if_neg (show ¬ errOf (st s f d e p) = 0 from h)]; rfl) (Ev.now _)
theorem within_out (hs : s.size ≤ 2000) {n d f m : Nat} {t : Tk} (ih : Sim l s n) (ht : tokAt ((L s).drop f) = (t, m)) (hf : f ≤ s.size) (hd : ¬ 40 < d) {r : Rs} (h : aOr l (L s) n (d + 1) (nx (L s) (f + m)) = some r) : Out s d (fun k => withinW k l (st s f d 0 0)) r := by
  have w1 : wrap64 ((d : Int) + 1) = ((d + 1 : Nat) : Int) := wrap_add d 1 _ rfl (Nat.le_trans (Nat.add_le_add_right (Nat.le_of_not_lt hd) 1) (by decide))
  have w2 : wrap64 (((d + 1 : Nat) : Int) + (-1)) = (d : Int) := by unfold wrap64; omega
  refine Out.step (fun k => within_step k l _) ?_
  refine Out.congr (G := fun k => within0W k l (st s f d 0 0)) (fun k => by rw [if_neg (show ¬ (st s f (d : Int) 0 0).2.2.2.2.2.2.2.1 > 40 from by show ¬ (d : Int) > 40; omega)]) ?_
  refine Out.step (fun k => within0_step k l _) ?_
  refine Out.congr (fun k => by rw [if_pos (show errOf (st s f (d : Int) 0 0) = 0 from rfl)]) ?_
  have e1 : deepBy (st s f (d : Int) 0 0) 1 = st s f ((d + 1 : Nat) : Int) 0 0 := by
    show (_, _, _, _, _, _, _, wrap64 ((d : Int) + 1), _, _) = _
    rw [w1]; rfl
  rw [e1]
  refine Out.bind (nextW_st hs ht hf) ?_
  have e2 : ∀ (g : Nat) (e p : Int), deepBy (st s g ((d + 1 : Nat) : Int) e p) (-1) = st s g (d : Int) e p := fun g e p => by
    show (_, _, _, _, _, _, _, wrap64 (((d + 1 : Nat) : Int) + (-1)), _, _) = _
    rw [w2]; rfl
  have o := ih.or (d + 1) _ r (nx_fit ht hf) (by omega) h
  cases r with
  | ok v g =>
    refine ⟨o.1, Ev.bind o.2 ?_⟩
    refine Ev.congr (f := fun _ => some (res v (st s g d 0 0))) (fun k => ?_) (Ev.now _)
    show some (v.f0, v.f1, v.f2, v.f3, deepBy (st s g ((d + 1 : Nat) : Int) 0 0) (-1)) = _
    rw [e2]; rfl
  | err e p =>
    obtain ⟨o1, x, g, o2, o3⟩ := o
    refine ⟨o1, x, g, o2, Ev.bind o3 ?_⟩
    refine Ev.congr (f := fun _ => some (res x (st s g d e p))) (fun k => ?_) (Ev.now _)
    show some (x.f0, x.f1, x.f2, x.f3, deepBy (st s g ((d + 1 : Nat) : Int) e p) (-1)) = _
    rw [e2]; rfl
theorem next_any (hs : s.size ≤ 2000) {f : Nat} {d e p : Int} (hf : f ≤ s.size) : ∃ g, g ≤ s.size ∧ Ev (fun k => nextW k l (st s f d e p)) (st s g d e p) :=
  ⟨_, nx_fit rfl hf, nextW_st hs rfl hf⟩
theorem within_deep {f d : Nat} (h : 40 < d) : Ev (fun k => withinW k l (st s f d 0 0)) (res ⟨0, 0, 0, []⟩ (st s f d 3 f)) := by
  refine Ev.step (fun k => within_step k l _) ?_
  refine Ev.congr (f := fun k => within0W k l (st s f d 3 f)) (fun k => by rw [if_pos (show (st s f (d : Int) 0 0).2.2.2.2.2.2.2.1 > 40 from by show (d : Int) > 40; omega), wrong_st]) ?_
  refine Ev.step (fun k => within0_step k l _) ?_
  exact Ev.congr (f := fun _ => some (res ⟨0, 0, 0, []⟩ (st s f d 3 f))) (fun k => by rw [if_neg (show ¬ errOf (st s f (d : Int) 3 f) = 0 by show ¬ (3 : Int) = 0; decide)]; rfl) (Ev.now _)
theorem exOf_res (x : S28) (σ : PS) : exOf (res x σ) = x := by cases x; rfl
theorem paren_err (hs : s.size ≤ 2000) {g d p : Nat} {e : Int} {x : S28} (hg : g ≤ s.size) (he : e ≠ 0) : Out s d (fun k => if isB (res x (st s g d e p)).2.2.2.2 41 = true then (nextW k l (res x (st s g d e p)).2.2.2.2).bind fun τ => some (res (exOf (res x (st s g d e p))) τ) else (nextW k l (wrongS (res x (st s g d e p)).2.2.2.2 1)).bind fun τ => some (res (exOf (res x (st s g d e p))) τ)) (.err e p) := by
  obtain ⟨g2, g1, g3⟩ := next_any (l := l) hs (d := d) (e := e) (p := p) hg
  refine ⟨he, x, g2, g1, ?_⟩
  refine Ev.congr (f := fun k => (nextW k l (st s g d e p)).bind fun τ => some (res x τ)) (fun k => ?_) (Ev.bind g3 (Ev.now _))
  show (if isB (st s g d e p) 41 = true then (nextW k l (st s g d e p)).bind fun τ => some (res x τ) else (nextW k l (wrongS (st s g d e p) 1)).bind fun τ => some (res x τ)) = _
  rw [wrong_no he]
  split <;> rfl
theorem nest_err (hs : s.size ≤ 2000) (hl : l.length ≤ 1000) {g d p : Nat} {e a : Int} {x : S28} (hg : g ≤ s.size) (he : e ≠ 0) : Out s d (fun k => if (res x (st s g d e p)).2.2.2.2.2.2.2.1 = 6 then (symW k l (res x (st s g d e p)).2.2.2.2).bind fun y => (nextW k l y.2).bind fun τ => some (res ⟨4, a, y.1, [exOf (res x (st s g d e p))]⟩ τ) else (nextW k l (wrongS (res x (st s g d e p)).2.2.2.2 1)).bind fun τ => some (res ⟨4, a, 0, [exOf (res x (st s g d e p))]⟩ τ)) (.err e p) := by
  obtain ⟨g2, g1, g3⟩ := next_any (l := l) hs (d := d) (e := e) (p := p) hg
  rw [exOf_res]
  show Out s d (fun k => if (st s g d e p).2.2.2.1 = 6 then (symW k l (st s g d e p)).bind fun y => (nextW k l y.2).bind fun τ => some (res ⟨4, a, y.1, [x]⟩ τ) else (nextW k l (wrongS (st s g d e p) 1)).bind fun τ => some (res ⟨4, a, 0, [x]⟩ τ)) (.err e p)
  rw [wrong_no he]
  obtain ⟨t, m, ht⟩ : ∃ t m, tokAt ((L s).drop g) = (t, m) := ⟨_, _, rfl⟩
  rw [st_K ht]
  by_cases hk : t.K = 6
  · refine Out.congr (fun k => by rw [if_pos hk]) ?_
    obtain ⟨nm, rfl⟩ : ∃ nm, t = .over nm := by
      cases t with
      | over nm => exact ⟨nm, rfl⟩
      | _ => simp [Tk.K] at hk
    refine Out.bind (symW_st (k9 := 2) hl ht rfl rfl) ?_
    rw [wrong_no he]
    cases findT l nm 2 0 with
    | some j => exact ⟨he, _, g2, g1, Ev.bind g3 (Ev.now _)⟩
    | none => exact ⟨he, _, g2, g1, Ev.bind g3 (Ev.now _)⟩
  · refine Out.congr (fun k => by rw [if_neg hk]) ?_
    exact ⟨he, _, g2, g1, Ev.bind g3 (Ev.now _)⟩
theorem sim (hs : s.size ≤ 2000) (hl : l.length ≤ 1000) : ∀ n, Sim l s n
  | 0 => by constructor <;> intros <;> simp_all [aAtom, aRep, aCat, aOr, aStars, aCats, aOrs]
  | n + 1 => by
    have ih := sim hs hl n
    have hb := bnd l (L s) n
    have hL : (L s).length = s.size := L_len s
    constructor
    · intro d f r hf hd h
      refine Out.step (fun k => atom_step k l _) ?_
      obtain ⟨t, m, ht⟩ : ∃ t m, tokAt ((L s).drop f) = (t, m) := ⟨_, _, rfl⟩
      rw [st_is (ch := 48) (c := 48) ht rfl, st_is (ch := 49) (c := 49) ht rfl, st_is (ch := 40) (c := 40) ht rfl, st_K ht]
      rw [aAtom, ht] at h
      -- an error told here
      have wrongHere : ∀ (e : Int), e ≠ 0 → Out s d (fun k => (nextW k l (wrongS (st s f d 0 0) e)).bind fun τ => some (res ⟨0, 0, 0, []⟩ τ)) (.err e f) := fun e he => by
        rw [wrong_st]
        obtain ⟨g, g1, g2⟩ := next_any (l := l) hs (d := d) (e := e) (p := f) hf
        exact ⟨he, ⟨0, 0, 0, []⟩, g, g1, Ev.bind g2 (Ev.now _)⟩
      cases t with
      | one c =>
        have e0 := one_step (s := L s) (f := f) (c := c) (by rw [ht]; simp [Tk.isOne]) (by rw [hL]; exact hf)
        have e1 := e0.2.2
        by_cases h48 : c = 48
        · subst h48
          injection h with h; subst h
          refine Out.congr (fun k => by rw [if_pos (show (Tk.one 48).isOne 48 = true from rfl)]) ?_
          exact Out.bind (nextW_st hs e1 hf) ⟨nx_fit e1 hf, Ev.now _⟩
        by_cases h49 : c = 49
        · subst h49
          injection h with h; subst h
          refine Out.congr (fun k => by rw [if_neg (show ¬ (Tk.one 49).isOne 48 = true by decide), if_pos (show (Tk.one 49).isOne 49 = true from rfl)]) ?_
          exact Out.bind (nextW_st hs e1 hf) ⟨nx_fit e1 hf, Ev.now _⟩
        have n48 : ¬ (Tk.one c).isOne 48 = true := by simpa [Tk.isOne] using h48
        have n49 : ¬ (Tk.one c).isOne 49 = true := by simpa [Tk.isOne] using h49
        simp only [if_neg h48, if_neg h49] at h
        by_cases h40 : c = 40
        · subst h40
          rw [if_pos rfl] at h
          refine Out.congr (fun k => by rw [if_neg n48, if_neg n49, if_pos (show (Tk.one 40).isOne 40 = true from rfl)]) ?_
          by_cases hd40 : 40 < d
          · rw [if_pos hd40] at h
            injection h with h; subst h
            exact Out.bind (within_deep hd40) (paren_err hs hf (by decide))
          · rw [if_neg hd40] at h
            rcases Rs.and_cases h with ⟨x, q, h1, h2⟩ | ⟨e, p, h1, rfl⟩
            · obtain ⟨o1, o2⟩ := within_out hs ih e1 hf hd40 h1
              refine Out.bind o2 ?_
              show Out s d (fun k => if isB (st s q d 0 0) 41 = true then (nextW k l (st s q d 0 0)).bind fun τ => some (res x τ) else (nextW k l (wrongS (st s q d 0 0) 1)).bind fun τ => some (res x τ)) r
              obtain ⟨t2, m2, ht2⟩ : ∃ t m, tokAt ((L s).drop q) = (t, m) := ⟨_, _, rfl⟩
              rw [st_is (ch := 41) (c := 41) ht2 rfl]
              by_cases hq : (tokAt ((L s).drop q)).1.isOne 41 = true
              · have e2 := (one_step hq (by rw [hL]; exact o1)).2.2
                rw [if_pos hq] at h2
                injection h2 with h2; subst h2
                rw [ht2] at hq
                refine Out.congr (fun k => by rw [if_pos hq]) ?_
                exact Out.bind (nextW_st hs e2 o1) ⟨nx_fit e2 o1, Ev.now _⟩
              · rw [if_neg hq] at h2
                injection h2 with h2; subst h2
                rw [ht2] at hq
                refine Out.congr (fun k => by rw [if_neg hq, wrong_st]) ?_
                obtain ⟨g, g1, g2⟩ := next_any (l := l) hs (d := d) (e := 1) (p := q) o1
                exact ⟨by decide, x, g, g1, Ev.bind g2 (Ev.now _)⟩
            · obtain ⟨o1, x, g, o2, o3⟩ := within_out hs ih e1 hf hd40 h1
              exact Out.bind o3 (paren_err hs o2 o1)
        · simp only [if_neg h40] at h
          injection h with h; subst h
          have n40 : ¬ (Tk.one c).isOne 40 = true := by simpa [Tk.isOne] using h40
          exact Out.congr (fun k => by rw [if_neg n48, if_neg n49, if_neg n40, if_neg (show ¬ (Tk.one c).K = 4 by simp [Tk.K]), if_neg (show ¬ (Tk.one c).K = 5 by simp [Tk.K])]) (wrongHere 1 (by decide))
      | sym nm kd =>
        have no : ∀ c, ¬ (Tk.sym nm kd).isOne c = true := fun c => by simp [Tk.isOne]
        refine Out.congr (fun k => by rw [if_neg (no 48), if_neg (no 49), if_neg (no 40), if_pos (show (Tk.sym nm kd).K = 4 from rfl)]) ?_
        refine Out.bind (symW_st (k9 := kd) hl ht rfl rfl) ?_
        simp only at h
        cases hq : findT l nm kd 0 with
        | some i =>
          rw [hq] at h
          injection h with h; subst h
          exact Out.bind (nextW_st hs ht hf) ⟨nx_fit ht hf, Ev.now _⟩
        | none =>
          rw [hq] at h
          injection h with h; subst h
          obtain ⟨g, g1, g2⟩ := next_any (l := l) hs (d := d) (e := 6) (p := f) hf
          exact ⟨by decide, _, g, g1, Ev.bind g2 (Ev.now _)⟩
      | nest nm =>
        have no : ∀ c, ¬ (Tk.nest nm).isOne c = true := fun c => by simp [Tk.isOne]
        refine Out.congr (fun k => by rw [if_neg (no 48), if_neg (no 49), if_neg (no 40), if_neg (show ¬ (Tk.nest nm).K = 4 by simp [Tk.K]), if_pos (show (Tk.nest nm).K = 5 from rfl)]) ?_
        refine Out.bind (symW_st (k9 := 1) hl ht rfl rfl) ?_
        simp only at h
        cases hq : findT l nm 1 0 with
        | none =>
          rw [hq] at h
          injection h with h; subst h
          exact Out.bind (within_err (show (6 : Int) ≠ 0 by decide)) (nest_err hs hl hf (by decide))
        | some a =>
          rw [hq] at h
          simp only at h ⊢
          by_cases hd40 : 40 < d
          · rw [if_pos hd40] at h
            injection h with h; subst h
            exact Out.bind (within_deep hd40) (nest_err hs hl hf (by decide))
          · rw [if_neg hd40] at h
            rcases Rs.and_cases h with ⟨x, q, h1, h2⟩ | ⟨e, p, h1, rfl⟩
            · obtain ⟨o1, o2⟩ := within_out hs ih ht hf hd40 h1
              refine Out.bind o2 ?_
              rw [exOf_res]
              show Out s d (fun k => if (st s q (d : Int) 0 0).2.2.2.1 = 6 then (symW k l (st s q d 0 0)).bind fun y => (nextW k l y.2).bind fun τ => some (res ⟨4, a, y.1, [x]⟩ τ) else (nextW k l (wrongS (st s q d 0 0) 1)).bind fun τ => some (res ⟨4, a, 0, [x]⟩ τ)) r
              obtain ⟨t2, m2, ht2⟩ : ∃ t m, tokAt ((L s).drop q) = (t, m) := ⟨_, _, rfl⟩
              rw [st_K ht2]
              rw [ht2] at h2
              have bad : t2.K ≠ 6 → some (Rs.err 1 q) = some r → Out s d (fun k => if t2.K = 6 then (symW k l (st s q d 0 0)).bind fun y => (nextW k l y.2).bind fun τ => some (res ⟨4, a, y.1, [x]⟩ τ) else (nextW k l (wrongS (st s q d 0 0) 1)).bind fun τ => some (res ⟨4, a, 0, [x]⟩ τ)) r := fun hk hr => by
                injection hr with hr; subst hr
                refine Out.congr (fun k => by rw [if_neg hk, wrong_st]) ?_
                obtain ⟨g, g1, g2⟩ := next_any (l := l) hs (d := d) (e := 1) (p := q) o1
                exact ⟨by decide, _, g, g1, Ev.bind g2 (Ev.now _)⟩
              cases t2 with
              | over nm2 =>
                refine Out.congr (fun k => by rw [if_pos (show (Tk.over nm2).K = 6 from rfl)]) ?_
                refine Out.bind (symW_st (k9 := 2) hl ht2 rfl rfl) ?_
                simp only at h2
                cases hq2 : findT l nm2 2 0 with
                | some b =>
                  rw [hq2] at h2
                  injection h2 with h2; subst h2
                  exact Out.bind (nextW_st hs ht2 o1) ⟨nx_fit ht2 o1, Ev.now _⟩
                | none =>
                  rw [hq2] at h2
                  injection h2 with h2; subst h2
                  obtain ⟨g, g1, g2⟩ := next_any (l := l) hs (d := d) (e := 6) (p := q) o1
                  exact ⟨by decide, _, g, g1, Ev.bind g2 (Ev.now _)⟩
              | eof => exact bad (by simp [Tk.K]) h2
              | bad => exact bad (by simp [Tk.K]) h2
              | one c => exact bad (by simp [Tk.K]) h2
              | sym nm2 k2 => exact bad (by simp [Tk.K]) h2
              | nest nm2 => exact bad (by simp [Tk.K]) h2
            · obtain ⟨o1, x, g, o2, o3⟩ := within_out hs ih ht hf hd40 h1
              exact Out.bind o3 (nest_err hs hl o2 o1)
      | over nm =>
        injection h with h; subst h
        exact Out.congr (fun k => rfl) (wrongHere 1 (by decide))
      | eof =>
        injection h with h; subst h
        exact Out.congr (fun k => rfl) (wrongHere 1 (by decide))
      | bad =>
        injection h with h; subst h
        exact Out.congr (fun k => rfl) (wrongHere 1 (by decide))
    · intro d f r hf hd h
      rw [aRep] at h
      refine Out.step (fun k => rep_step k l _) ?_
      rcases Rs.and_cases h with ⟨x, q, h1, h2⟩ | ⟨e, p, h1, rfl⟩
      · obtain ⟨o1, o2⟩ := ih.atom d f _ hf hd h1
        exact Out.bind o2 (ih.stars d q x r o1 h2)
      · obtain ⟨o1, x, g, o2, o3⟩ := ih.atom d f _ hf hd h1
        exact ⟨o1, x, g, o2, Ev.bind o3 (repL_err _ o1)⟩
    · intro d f r hf hd h
      rw [aCat] at h
      refine Out.step (fun k => cat_step k l _) ?_
      rcases Rs.and_cases h with ⟨x, q, h1, h2⟩ | ⟨e, p, h1, rfl⟩
      · obtain ⟨o1, o2⟩ := ih.rep d f _ hf hd h1
        have b := hb.rep _ _ _ _ (by rw [hL]; exact hf) h1
        have := tsize_eq x
        exact Out.bind o2 (by rw [exOf_res]; exact ih.cats d q [x] r o1 hd (by simp) (by simp only [List.length_singleton]; omega) h2)
      · obtain ⟨o1, x, g, o2, o3⟩ := ih.rep d f _ hf hd h1
        exact ⟨o1, _, g, o2, Ev.bind o3 (catL_err (by simp) o1)⟩
    · intro d f r hf hd h
      rw [aOr] at h
      refine Out.step (fun k => or_step k l _) ?_
      rcases Rs.and_cases h with ⟨x, q, h1, h2⟩ | ⟨e, p, h1, rfl⟩
      · obtain ⟨o1, o2⟩ := ih.cat d f _ hf hd h1
        have b := hb.cat _ _ _ _ (by rw [hL]; exact hf) h1
        have := tsize_eq x
        exact Out.bind o2 (by rw [exOf_res]; exact ih.ors d q [x] r o1 hd (by simp) (by simp only [List.length_singleton]; omega) h2)
      · obtain ⟨o1, x, g, o2, o3⟩ := ih.cat d f _ hf hd h1
        exact ⟨o1, _, g, o2, Ev.bind o3 (orL_err (by simp) o1)⟩
    · intro d f x r hf h
      rw [aStars] at h
      refine Out.step (fun k => repL_step k l _ x) ?_
      refine Out.congr (fun k => by rw [if_pos (show errOf (st s f (d : Int) 0 0) = 0 from rfl)]) ?_
      obtain ⟨t, m, ht⟩ : ∃ t m, tokAt ((L s).drop f) = (t, m) := ⟨_, _, rfl⟩
      rw [st_is (ch := 42) (c := 42) ht rfl]
      by_cases hq : (tokAt ((L s).drop f)).1.isOne 42 = true
      · have e1 := (one_step hq (by rw [hL]; exact hf)).2.2
        rw [if_pos hq] at h
        rw [ht] at hq
        refine Out.congr (fun k => by rw [if_pos hq]) ?_
        refine Out.bind (nextW_st hs e1 hf) ?_
        exact ih.stars d _ _ r (nx_fit e1 hf) h
      · rw [if_neg hq] at h
        rw [ht] at hq
        injection h with h; subst h
        exact ⟨hf, Ev.congr (f := fun _ => some (res x (st s f d 0 0))) (fun k => by rw [if_neg hq]) (Ev.now _)⟩
    · intro d f acc r hf hd ha hal h
      rw [aCats] at h
      refine Out.step (fun k => catL_step k l _ acc ha) ?_
      refine Out.congr (fun k => by rw [if_pos (show errOf (st s f (d : Int) 0 0) = 0 from rfl)]) ?_
      obtain ⟨t, m, ht⟩ : ∃ t m, tokAt ((L s).drop f) = (t, m) := ⟨_, _, rfl⟩
      rw [st_beg ht]
      rw [ht] at h
      by_cases hq : t.begins = true
      · rw [if_pos hq] at h
        refine Out.congr (fun k => by rw [if_pos hq]) ?_
        rcases Rs.and_cases h with ⟨x, q, h1, h2⟩ | ⟨e, p, h1, rfl⟩
        · obtain ⟨o1, o2⟩ := ih.rep d f _ hf hd h1
          have b := hb.rep _ _ _ _ (by rw [hL]; exact hf) h1
          have := tsize_eq x
          refine Out.bind o2 ?_
          refine Out.congr (fun k => by rw [if_pos (show acc.length < 2932031007402 by omega)]) ?_
          rw [exOf_res]
          exact ih.cats d q (acc ++ [x]) r o1 hd (by simp) (by rw [List.length_append, List.length_singleton]; omega) h2
        · obtain ⟨o1, x, g, o2, o3⟩ := ih.rep d f _ hf hd h1
          refine ⟨o1, severalT 5 (acc ++ [exOf (res x (st s g d e p))]), g, o2, Ev.bind o3 ?_⟩
          refine Ev.congr (fun k => by rw [if_pos (show acc.length < 2932031007402 by omega)]) ?_
          exact catL_err (by simp) o1
      · rw [if_neg hq] at h
        injection h with h; subst h
        exact ⟨hf, Ev.congr (f := fun _ => some (res (severalT 5 acc) (st s f d 0 0))) (fun k => by rw [if_neg hq]) (Ev.now _)⟩
    · intro d f acc r hf hd ha hal h
      rw [aOrs] at h
      refine Out.step (fun k => orL_step k l _ acc) ?_
      refine Out.congr (fun k => by rw [if_pos (show errOf (st s f (d : Int) 0 0) = 0 from rfl)]) ?_
      obtain ⟨t, m, ht⟩ : ∃ t m, tokAt ((L s).drop f) = (t, m) := ⟨_, _, rfl⟩
      rw [st_is (ch := 124) (c := 124) ht rfl]
      refine Out.step (fun k => orJ_step k l _ acc _ ha) ?_
      by_cases hq : (tokAt ((L s).drop f)).1.isOne 124 = true
      · have e0 := one_step hq (by rw [hL]; exact hf)
        have e1 := e0.2.2
        rw [if_pos hq] at h
        rw [ht] at hq
        refine Out.congr (fun k => by rw [if_pos hq]) ?_
        refine Out.bind (nextW_st hs e1 hf) ?_
        have hf2 := nx_fit e1 hf
        rcases Rs.and_cases h with ⟨x, q, h1, h2⟩ | ⟨e, p, h1, rfl⟩
        · obtain ⟨o1, o2⟩ := ih.cat d _ _ hf2 hd h1
          have b := hb.cat _ _ _ _ (by rw [hL]; exact hf2) h1
          have := tsize_eq x
          refine Out.bind o2 ?_
          refine Out.congr (fun k => by rw [if_pos (show acc.length < 2932031007402 by omega)]) ?_
          rw [exOf_res]
          exact ih.ors d q (acc ++ [x]) r o1 hd (by simp) (by rw [List.length_append, List.length_singleton]; omega) h2
        · obtain ⟨o1, x, g, o2, o3⟩ := ih.cat d _ _ hf2 hd h1
          refine ⟨o1, severalT 6 (acc ++ [exOf (res x (st s g d e p))]), g, o2, Ev.bind o3 ?_⟩
          refine Ev.congr (fun k => by rw [if_pos (show acc.length < 2932031007402 by omega)]) ?_
          exact orL_err (by simp) o1
      · rw [if_neg hq] at h
        rw [ht] at hq
        injection h with h; subst h
        exact ⟨hf, Ev.congr (f := fun _ => some (res (severalT 6 acc) (st s f d 0 0))) (fun k => by rw [if_neg hq]) (Ev.now _)⟩
/-- What is told of a text, read. -/
def tell (l : List S56) (S : List UInt8) : Rs → S28 × Int × Int
  | .err e p => (⟨0, 0, 0, []⟩, (p : Int), e)
  | .ok x g => if (tokAt (S.drop g)).1.isEof then (if treeErr l x = 0 then (x, 0, 0) else (⟨0, 0, 0, []⟩, 0, treeErr l x)) else (⟨0, 0, 0, []⟩, (g : Int), 1)
def parseJ (k : Nat) (l : List S56) (σ : PS) (x : S28) : Option (Int × Int × Int × List S28 × Int × Int) := expr_Parse.j0 k l l σ.1 σ.2.1 σ.2.2.1 σ.2.2.2.1 σ.2.2.2.2.1 σ.2.2.2.2.2.1 σ.2.2.2.2.2.2.1 σ.2.2.2.2.2.2.2.1 σ.2.2.2.2.2.2.2.2.1 σ.2.2.2.2.2.2.2.2.2 x.f0 x.f1 x.f2 x.f3
def six (r : S28 × Int × Int) : Int × Int × Int × List S28 × Int × Int := (r.1.f0, r.1.f1, r.1.f2, r.1.f3, r.2.1, r.2.2)
theorem parseJ_err {σ : PS} (x : S28) (h : errOf σ ≠ 0) : Ev (fun k => parseJ k l σ x) (six (⟨0, 0, 0, []⟩, σ.2.2.2.2.2.2.2.2.2, errOf σ)) := by
  refine Ev.step (fun k => rfl) ?_
  refine Ev.congr (f := fun _ => some (six (⟨0, 0, 0, []⟩, σ.2.2.2.2.2.2.2.2.2, errOf σ))) (fun k => ?_) (Ev.now _)
  unfold parseJ
  rw [expr_Parse.j0, if_neg (show ¬ σ.2.2.2.2.2.2.2.2.1 = 0 from h)]
  rfl
theorem parseJ_ok {σ : PS} {x : S28} (h : errOf σ = 0) (hx : tsize x ≤ 1000000000) : Ev (fun k => parseJ k l σ x) (six (if treeErr l x = 0 then (x, 0, 0) else (⟨0, 0, 0, []⟩, 0, treeErr l x))) := by
  refine Ev.step (fun k => rfl) ?_
  refine Ev.congr (f := fun k => (checkF k l x).bind fun t => if t = 0 then some (x.f0, x.f1, x.f2, x.f3, 0, 0) else some (0, 0, 0, [], 0, t)) (fun k => ?_) ?_
  · unfold parseJ
    rw [expr_Parse.j0, if_pos (show σ.2.2.2.2.2.2.2.2.1 = 0 from h)]
    cases x
    rfl
  · refine Ev.bind (check_ev l x hx) ?_
    by_cases hq : treeErr l x = 0
    · rw [if_pos hq, hq]; exact Ev.now _
    · rw [if_neg hq, if_neg hq]
      exact Ev.now _
theorem parse_sim (hs : s.size ≤ 2000) (hl : l.length ≤ 1000) {n : Nat} {r : Rs} (h : aOr l (L s) n 0 (nx (L s) 0) = some r) : Ev (fun k => expr_Parse.f k l s) (six (tell l (L s) r)) := by
  have hL : (L s).length = s.size := L_len s
  have hf : nx (L s) 0 ≤ s.size := by have := nx_le (L s) 0 (by omega); omega
  have o := (sim hs hl n).or 0 _ r hf (by omega) h
  unfold expr_Parse.f
  refine Ev.congr (fun k => by rw [if_neg (show ¬ (s.size : Int) > 2000 by omega)]) ?_
  refine Ev.bind (next_ev l s hs 0 (by omega) 0 0 (⟨#[]⟩ : ByteArray) 0 0 0 0 0) ?_
  cases r with
  | err e p =>
    obtain ⟨o1, x, g, o2, o3⟩ := o
    refine Ev.bind (g := fun k => orW k l (st s (nx (L s) 0) 0 0 0)) o3 ?_
    show Ev (fun k => if (st s g ((0 : Nat) : Int) e p).2.2.2.1 = 1 then parseJ k l (st s g ((0 : Nat) : Int) e p) x else _) (six (⟨0, 0, 0, []⟩, (p : Int), e))
    have hj := parseJ_err (l := l) (σ := st s g ((0 : Nat) : Int) e p) x o1
    by_cases hk : (st s g ((0 : Nat) : Int) e p).2.2.2.1 = 1
    · exact Ev.congr (fun k => by rw [if_pos hk]) hj
    · refine Ev.congr (f := fun k => parseJ k l (st s g ((0 : Nat) : Int) e p) x) (fun k => ?_) hj
      rw [if_neg hk, wrong_eq, Option.bind_some]
      show parseJ k l (wrongS (st s g ((0 : Nat) : Int) e p) 1) x = _
      rw [wrong_no o1]
  | ok x g =>
    have hb := (bnd l (L s) n).or _ _ _ _ (by omega) h
    refine Ev.bind (g := fun k => orW k l (st s (nx (L s) 0) 0 0 0)) o.2 ?_
    show Ev (fun k => if (st s g ((0 : Nat) : Int) 0 0).2.2.2.1 = 1 then parseJ k l (st s g ((0 : Nat) : Int) 0 0) x else _) (six (tell l (L s) (.ok x g)))
    obtain ⟨t, m, ht⟩ : ∃ t m, tokAt ((L s).drop g) = (t, m) := ⟨_, _, rfl⟩
    have hK := st_K (d := ((0 : Nat) : Int)) (e := 0) (p := 0) ht
    have et : tell l (L s) (.ok x g) = if (tokAt ((L s).drop g)).1.isEof then (if treeErr l x = 0 then (x, 0, 0) else (⟨0, 0, 0, []⟩, 0, treeErr l x)) else (⟨0, 0, 0, []⟩, (g : Int), 1) := rfl
    rw [et, ht]
    by_cases hk : t.K = 1
    · have he : t.isEof = true := by
        cases t with
        | eof => rfl
        | _ => simp [Tk.K] at hk
      rw [if_pos he]
      exact Ev.congr (fun k => by rw [if_pos (hK.trans hk)]) (parseJ_ok rfl (by omega))
    · have he : ¬ t.isEof = true := by
        cases t with
        | eof => exact absurd rfl hk
        | _ => simp [Tk.isEof]
      rw [if_neg he]
      have hj := parseJ_err (l := l) (σ := st s g ((0 : Nat) : Int) 1 g) x (by show (1 : Int) ≠ 0; decide)
      refine Ev.congr (f := fun k => parseJ k l (st s g ((0 : Nat) : Int) 1 g) x) (fun k => ?_) hj
      rw [if_neg (fun q => hk (hK.symm.trans q)), wrong_eq, Option.bind_some]
      rfl
theorem parse_long (h : 2000 < s.size) : ∀ k, expr_Parse.f k l s = some (six (⟨0, 0, 0, []⟩, 0, 2)) := fun k => by
  unfold expr_Parse.f
  rw [if_pos (by omega)]
  rfl
end
end Go.Proofs.YtodbnnfiadcbaaaL
namespace Go.Proofs.YtodbnnfiadcbaaaL
open Go.RowKit Go.Proofs.Ytodbnnfiadcbaaa.P Go.Proofs.YtodbnnfiadcbaaaW.PrintWords Go.Proofs.YtodbnnfiadcbaaaW.PrintLast Go.Proofs.YtodbnnfiadcbaaaW.PrintMore
set_option linter.unusedSimpArgs false
set_option linter.unusedVariables false
set_option linter.unusedSectionVars false
theorem B_app (a b : List UInt8) : B a ++ B b = B (a ++ b) := L_inj (by rw [L_append, L_B, L_B, L_B])
theorem fit_of {α : Type} {n : Nat} (h : n ≤ 1000000) (a b : α) : (if n ≤ 9223372036854775807 then a else b) = a := if_pos (Nat.le_trans h (by decide))
theorem lit1 (a : UInt8) : (⟨#[a]⟩ : ByteArray) = B [a] := rfl
theorem lit2 (a b : UInt8) : (⟨#[a, b]⟩ : ByteArray) = B [a, b] := rfl
theorem lit3 (a b c : UInt8) : (⟨#[a, b, c]⟩ : ByteArray) = B [a, b, c] := rfl
theorem name_B (l : List S56) (i : Int) : (rd_T56 l i).f0 = B (nameT l i) := (B_L _).symm
section
variable {l : List S56} (hg : goodB l = true)
include hg
theorem name_ev {a : Int} (h0 : 0 ≤ a) (h1 : a < (l.length : Int)) : expr_name.f l a = some (B (nameT l a)) := by
  unfold expr_name.f
  rw [if_neg (by omega), if_neg (by omega), if_pos h0, if_pos h1, name_B]
theorem symText_ev {a : Int} (h0 : 0 ≤ a) (h1 : a < (l.length : Int)) : Ev (fun k => expr_text.f k l a) (B (symT l a)) := by
  have hn := nameT_len (good_names hg) a
  unfold expr_text.f
  refine Ev.congr (fun k => by rw [if_neg (by omega), decide_eq_false (by omega)]) ?_
  refine Ev.step (fun k => rfl) ?_
  refine Ev.congr (f := fun _ => some (B (symT l a))) (fun k => ?_) (Ev.now _)
  rw [expr_text.j0, if_neg (by decide), if_pos h0, if_pos h1, name_B]
  unfold symT
  rw [lit1, lit1, lit2]
  simp only [B_app, B_size]
  by_cases k1 : (rd_T56 l a).f1 = 1
  · rw [if_pos k1, if_pos k1, fit_of (by omega), fit_of (by simp only [List.length_append, List.length_cons, List.length_nil]; omega)]
  · rw [if_neg k1, if_neg k1]
    by_cases k2 : (rd_T56 l a).f1 = 2
    · rw [if_pos k2, if_pos k2, fit_of (by omega), fit_of (by simp only [List.length_append, List.length_cons, List.length_nil]; omega)]
    · rw [if_neg k2, if_neg k2]
theorem sign_ev {a : Int} : canopyref1_Sign.f (rd_T56 l a).f0 (rd_T56 l a).f1 = some (B (symT l a)) := by
  have hn := nameT_len (good_names hg) a
  unfold canopyref1_Sign.f symT
  rw [name_B, lit1, lit1, lit2]
  simp only [B_app, B_size]
  by_cases k1 : (rd_T56 l a).f1 = 1
  · rw [if_pos k1, if_pos k1, fit_of (by omega), fit_of (by simp only [List.length_append, List.length_cons, List.length_nil]; omega)]
  · rw [if_neg k1, if_neg k1]
    by_cases k2 : (rd_T56 l a).f1 = 2
    · rw [if_pos k2, if_pos k2, fit_of (by omega), fit_of (by simp only [List.length_append, List.length_cons, List.length_nil]; omega)]
    · rw [if_neg k2, if_neg k2]
omit hg in
def parT (ks : List Int) (k : Int) (t : List UInt8) : List UInt8 := if k ∈ ks then [40, 32] ++ t ++ [32, 41] else t
omit hg in
theorem part_l0 (t : List UInt8) (ht : t.length ≤ 100000) (ks : List Int) (hk : ks.length ≤ 1000) (a b c : Int) (xs : List S28) : ∀ (d i : Nat), i + d = ks.length → Ev (fun k => expr_part.l0 k (B t) ks (ks.length : Int) (i : Int) a b c xs) (B (parT (ks.drop i) a t)) := by
  intro d
  induction d with
  | zero =>
    intro i hi
    rw [List.drop_eq_nil_of_le (by omega)]
    refine Ev.step (fun k => rfl) ?_
    exact Ev.congr (f := fun _ => some (B t)) (fun k => by rw [expr_part.l0, if_neg (by omega)]) (Ev.now _)
  | succ d ih =>
    intro i hi
    have hlt : i < ks.length := by omega
    have hr : rd ks (i : Int) = ks[i] := by simp [rd, hlt]
    rw [List.drop_eq_getElem_cons hlt]
    refine Ev.step (fun k => rfl) ?_
    by_cases h : a = ks[i]
    · refine Ev.congr (f := fun _ => some (B ([40, 32] ++ t ++ [32, 41]))) (fun k => ?_) ?_
      · rw [expr_part.l0, if_pos (by omega), if_pos (by omega), if_pos (by omega), hr, if_pos h, lit2, lit2]
        simp only [B_app, B_size]
        rw [fit_of (by omega), fit_of (by simp only [List.length_append, List.length_cons, List.length_nil]; omega)]
      · unfold parT
        rw [if_pos (show a ∈ ks[i] :: ks.drop (i + 1) by rw [h]; exact List.mem_cons_self)]
        exact Ev.now _
    · refine Ev.congr (fun k => by rw [expr_part.l0, if_pos (by omega), if_pos (by omega), if_pos (by omega), hr, if_neg h, wrap_suc i ks.length hlt (by omega)]) ?_
      have := ih (i + 1) (by omega)
      have e9 : parT (ks[i] :: ks.drop (i + 1)) a t = parT (ks.drop (i + 1)) a t := by
        unfold parT
        by_cases h2 : a ∈ ks.drop (i + 1)
        · rw [if_pos h2, if_pos (List.mem_cons_of_mem _ h2)]
        · rw [if_neg h2, if_neg (fun q => (List.mem_cons.mp q).elim h h2)]
      rw [e9]
      exact this
omit hg in
theorem part_ev (x : S28) (t : List UInt8) (ht : t.length ≤ 100000) (ks : List Int) (hk : ks.length ≤ 1000) (h : Ev (fun k => expr_Text.f k l x.f0 x.f1 x.f2 x.f3) (B t)) : Ev (fun k => expr_part.f k l x.f0 x.f1 x.f2 x.f3 ks) (B (parT ks x.f0 t)) := by
  refine Ev.step (fun k => rfl) ?_
  refine Ev.congr (fun k => by rw [expr_part.f]) ?_
  refine Ev.bind h ?_
  exact part_l0 t ht ks hk _ _ _ _ ks.length 0 (by omega)
omit hg in
def partsT (l : List S56) (ks : List Int) (xs : List S28) : List (List UInt8) := xs.map fun x => parT ks x.f0 (textT l x)
omit hg in
theorem parts_l0 (sep : List UInt8) (ks : List Int) (hk : ks.length ≤ 1000) (xs : List S28) (hx : ∀ x ∈ xs, (textT l x).length ≤ 100000 ∧ Ev (fun k => expr_Text.f k l x.f0 x.f1 x.f2 x.f3) (B (textT l x))) (hn : xs.length ≤ 1000) (hj : (Lib.join (partsT l ks xs) sep).length ≤ 1000000) :
    ∀ (d i : Nat), i + d = xs.length → Ev (fun k => expr_parts.l0 k l (B sep) ks ((partsT l ks (xs.take i)).map B) xs (xs.length : Int) (i : Int)) (B (Lib.join (partsT l ks xs) sep)) := by
  intro d
  induction d with
  | zero =>
    intro i hi
    refine Ev.step (fun k => rfl) ?_
    refine Ev.congr (f := fun _ => some (B (Lib.join (partsT l ks xs) sep))) (fun k => ?_) (Ev.now _)
    rw [expr_parts.l0, if_neg (by omega), List.take_of_length_le (by omega)]
    unfold strings_Join.f
    have e : ((partsT l ks xs).map B).map (fun x => x.data.toList) = partsT l ks xs := by
      rw [List.map_map]
      have : ((fun x : ByteArray => x.data.toList) ∘ B) = id := by funext a; exact L_B a
      rw [this, List.map_id]
    have e2 : (B sep).data.toList = sep := L_B sep
    rw [if_pos (by rw [List.length_map]; unfold partsT; rw [List.length_map]; exact Nat.le_trans hn (by decide)), e, e2, if_pos (Nat.le_trans hj (by decide))]
    rfl
  | succ d ih =>
    intro i hi
    have hlt : i < xs.length := by omega
    obtain ⟨h1, h2⟩ := hx _ (rd_in xs i hlt)
    refine Ev.step (fun k => rfl) ?_
    refine Ev.congr (fun k => by rw [expr_parts.l0, if_pos (by omega), if_pos (by omega), if_pos (by omega)]) ?_
    refine Ev.bind (part_ev (rd_T28 xs (i : Int)) _ h1 ks hk h2) ?_
    have hl : ((partsT l ks (xs.take i)).map B).length = i := by
      rw [List.length_map]; unfold partsT; rw [List.length_map, List.length_take]; omega
    refine Ev.congr (fun k => by rw [if_pos (by rw [hl]; exact Nat.lt_of_le_of_lt (Nat.le_trans (Nat.le_of_lt hlt) hn) (by decide)), wrap_suc i xs.length hlt (by omega)]) ?_
    have := ih (i + 1) (by omega)
    have et : xs.take (i + 1) = xs.take i ++ [rd_T28 xs (i : Int)] := by
      rw [List.take_succ_eq_append_getElem hlt]
      congr 2
      unfold rd_T28
      rw [Int.toNat_natCast, List.getD_eq_getElem?_getD, List.getElem?_eq_getElem hlt]
      rfl
    rw [et] at this
    unfold partsT at this ⊢
    rw [List.map_append, List.map_append] at this
    exact this
omit hg in
theorem parts_ev (a b c : Int) (sep : List UInt8) (ks : List Int) (hk : ks.length ≤ 1000) (xs : List S28) (hx : ∀ x ∈ xs, (textT l x).length ≤ 100000 ∧ Ev (fun k => expr_Text.f k l x.f0 x.f1 x.f2 x.f3) (B (textT l x))) (hn : xs.length ≤ 1000) (hj : (Lib.join (partsT l ks xs) sep).length ≤ 1000000) :
    Ev (fun k => expr_parts.f k l a b c xs (B sep) ks) (B (Lib.join (partsT l ks xs) sep)) := by
  refine Ev.step (fun k => rfl) ?_
  refine Ev.congr (fun k => by rw [expr_parts.f]) ?_
  exact parts_l0 sep ks hk xs hx hn hj xs.length 0 (by omega)
omit hg in
theorem partsT_held (cat : Bool) : ∀ xs : List S28, partsT l (if cat then [5, 6] else [6]) xs = heldsT l cat xs
  | [] => by simp [partsT, heldsT]
  | x :: xs => by
    have := partsT_held cat xs
    unfold partsT at this ⊢
    rw [List.map_cons, this, heldsT]
    congr 1
    unfold parT held
    cases cat
    · simp
    · show (if x.f0 ∈ ([5, 6] : List Int) then _ else _) = _
      by_cases h6 : x.f0 = 6
      · rw [if_pos (by rw [h6]; simp), if_pos (.inl h6)]
      · by_cases h5 : x.f0 = 5
        · rw [if_pos (by rw [h5]; simp), if_pos (.inr ⟨rfl, h5⟩)]
        · rw [if_neg (by simp [h5, h6]), if_neg (by simp [h5, h6])]
omit hg in
theorem partsT_bare (x : S28) : Lib.join (partsT l [] [x]) [32] = textT l x := by
  show Lib.join [parT [] x.f0 (textT l x)] [32] = _
  rw [Lib.join_cons, joinTail_nil, List.append_nil]
  rfl
theorem text_ev : ∀ (n : Nat) (e : S28), tsize e ≤ n → n ≤ 1000 → Fit l e → Ev (fun k => expr_Text.f k l e.f0 e.f1 e.f2 e.f3) (B (textT l e))
  | 0, e, h, _, _ => by rw [tsize_eq] at h; omega
  | n + 1, e, h, hn, hf => by
    have hlen := textT_len (good_names hg) e
    have hz := tsize_eq e
    have kid : ∀ x ∈ e.f3, Fit l x → (textT l x).length ≤ 100000 ∧ Ev (fun k => expr_Text.f k l x.f0 x.f1 x.f2 x.f3) (B (textT l x)) := fun x hx hfx => by
      have h1 := tsize_mem hx
      have h2 := textT_len (good_names hg) x
      exact ⟨by omega, text_ev n x (by omega) (by omega) hfx⟩
    have hnx := len_tsizeL e.f3
    refine Ev.step (fun k => rfl) ?_
    have hv := view hf
    cases hv with
    | none => exact Ev.congr (f := fun _ => some (B [48])) (fun k => by rw [expr_Text.f]; rfl) (by rw [textT_none]; exact Ev.now _)
    | void => exact Ev.congr (f := fun _ => some (B [49])) (fun k => by rw [expr_Text.f]; rfl) (by rw [textT_void]; exact Ev.now _)
    | sym a h0 h1 =>
      refine Ev.congr (fun k => by rw [expr_Text.f, if_neg (show ¬ (3 : Int) = 2 by decide), if_pos (show (3 : Int) = 3 from rfl)]) ?_
      rw [textT_sym]
      exact Ev.bind (symText_ev hg h0 h1) (Ev.now _)
    | nest a b x a0 a1 a2 b0 b1 b2 hx =>
      have hkx := kid x (by simp) hx
      have na := nameT_len (good_names hg) a
      have nb := nameT_len (good_names hg) b
      have hp := parts_ev (l := l) 4 a b [32] [] (by decide) [x] (fun y hy => by rw [List.mem_singleton.mp hy]; exact hkx) (by simp) (by rw [partsT_bare]; exact Nat.le_trans hkx.1 (by decide))
      rw [partsT_bare] at hp
      refine Ev.congr (fun k => by rw [expr_Text.f, if_neg (show ¬ (4 : Int) = 2 by decide), if_neg (show ¬ (4 : Int) = 3 by decide), if_pos (show (4 : Int) = 4 from rfl), name_ev hg a0 a1, Option.bind_some, name_ev hg b0 b1, lit1, lit1, lit2, lit2, lit1]) ?_
      simp only [B_app, B_size, Option.bind_some]
      refine Ev.congr (fun k => by rw [fit_of (by omega), fit_of (by simp only [List.length_append, List.length_cons, List.length_nil]; omega)]) ?_
      refine Ev.bind hp ?_
      simp only [B_app, B_size]
      have hx9 := hkx.1
      refine Ev.congr (f := fun _ => some (B (textT l ⟨4, a, b, [x]⟩))) (fun k => ?_) (Ev.now _)
      rw [fit_of (by simp only [List.length_append, List.length_cons, List.length_nil]; omega), fit_of (by simp only [List.length_append, List.length_cons, List.length_nil]; omega), fit_of (by simp only [List.length_append, List.length_cons, List.length_nil]; omega), fit_of (by simp only [List.length_append, List.length_cons, List.length_nil]; omega), textT_nest]
      simp
    | cat x y xs hx =>
      refine Ev.congr (fun k => by rw [expr_Text.f, if_neg (show ¬ (5 : Int) = 2 by decide), if_neg (show ¬ (5 : Int) = 3 by decide), if_neg (show ¬ (5 : Int) = 4 by decide), if_pos (show (5 : Int) = 5 from rfl), lit1]) ?_
      have e1 : Lib.join (partsT l [5, 6] (x :: y :: xs)) [32] = textT l ⟨5, 0, 0, x :: y :: xs⟩ := by
        rw [textT_cat, show ([5, 6] : List Int) = if true then [5, 6] else [6] from rfl, partsT_held, heldsT_cons, Lib.join_cons]
      have := parts_ev (l := l) 5 0 0 [32] [5, 6] (by decide) (x :: y :: xs) (fun z hz => kid z hz (hx z hz)) (by simp only at hnx hz; omega) (by rw [e1]; omega)
      rw [e1] at this
      exact Ev.bind this (Ev.now _)
    | or x y xs hx =>
      refine Ev.congr (fun k => by rw [expr_Text.f, if_neg (show ¬ (6 : Int) = 2 by decide), if_neg (show ¬ (6 : Int) = 3 by decide), if_neg (show ¬ (6 : Int) = 4 by decide), if_neg (show ¬ (6 : Int) = 5 by decide), if_pos (show (6 : Int) = 6 from rfl), lit3]) ?_
      have e1 : Lib.join (partsT l [6] (x :: y :: xs)) [32, 124, 32] = textT l ⟨6, 0, 0, x :: y :: xs⟩ := by
        rw [textT_or, show ([6] : List Int) = if false then [5, 6] else [6] from rfl, partsT_held, heldsT_cons, Lib.join_cons]
      have := parts_ev (l := l) 6 0 0 [32, 124, 32] [6] (by decide) (x :: y :: xs) (fun z hz => kid z hz (hx z hz)) (by simp only at hnx hz; omega) (by rw [e1]; omega)
      rw [e1] at this
      exact Ev.bind this (Ev.now _)
    | star x hx =>
      refine Ev.congr (fun k => by rw [expr_Text.f, if_neg (show ¬ (7 : Int) = 2 by decide), if_neg (show ¬ (7 : Int) = 3 by decide), if_neg (show ¬ (7 : Int) = 4 by decide), if_neg (show ¬ (7 : Int) = 5 by decide), if_neg (show ¬ (7 : Int) = 6 by decide), if_pos (show (7 : Int) = 7 from rfl), lit1, lit1]) ?_
      have e1 : Lib.join (partsT l [5, 6] [x]) [32] ++ [42] = textT l ⟨7, 0, 0, [x]⟩ := by
        rw [textT_star, show ([5, 6] : List Int) = if true then [5, 6] else [6] from rfl, partsT_held, heldsT_cons, Lib.join_cons, heldsT_nil, joinTail_nil, List.append_nil]
      have hl2 : (Lib.join (partsT l [5, 6] [x]) [32]).length + 1 = (textT l ⟨7, 0, 0, [x]⟩).length := by rw [← e1]; simp
      have := parts_ev (l := l) 7 0 0 [32] [5, 6] (by decide) [x] (fun z hz => by rw [List.mem_singleton.mp hz]; exact kid x (by simp) hx) (by simp) (by omega)
      refine Ev.bind this ?_
      simp only [B_app, B_size]
      refine Ev.congr (f := fun _ => some (B (textT l ⟨7, 0, 0, [x]⟩))) (fun k => ?_) (Ev.now _)
      rw [fit_of (by omega), e1]
end
end Go.Proofs.YtodbnnfiadcbaaaL
namespace Go.Proofs.YtodbnnfiadcbaaaL
open Go.RowKit Go.Proofs.Ytodbnnfiadcbaaa.P Go.Proofs.YtodbnnfiadcbaaaW.PrintWords Go.Proofs.YtodbnnfiadcbaaaW.PrintLast Go.Proofs.YtodbnnfiadcbaaaW.PrintMore
set_option linter.unusedSimpArgs false
set_option linter.unusedVariables false
set_option linter.unusedSectionVars false
section
variable {l : List S56} (hg : goodB l = true)
theorem heldT_len (cat : Bool) (x : S28) : (held cat x.f0 (textT l x)).length ≤ (textT l x).length + 4 := held_len _ _ _
theorem held_ev {x : S28} (cat : Bool) (ht : (textT l x).length ≤ 100000) (h : Ev (fun k => canopyref5_Text.f k l x.f0 x.f1 x.f2 x.f3) (B (textT l x))) : Ev (fun k => canopyref5_held.f k l x.f0 x.f1 x.f2 x.f3 cat) (B (held cat x.f0 (textT l x))) := by
  have j : ∀ b : Bool, Ev (fun k => canopyref5_held.j0 k l b x.f0 x.f1 x.f2 x.f3) (B (if b then [40, 32] ++ textT l x ++ [32, 41] else textT l x)) := by
    intro b
    refine Ev.step (fun k => rfl) ?_
    cases b with
    | true =>
      refine Ev.congr (fun k => by rw [canopyref5_held.j0, if_pos rfl, lit2, lit2]) ?_
      refine Ev.bind h ?_
      simp only [B_app, B_size]
      refine Ev.congr (f := fun _ => some (B ([40, 32] ++ textT l x ++ [32, 41]))) (fun k => ?_) (Ev.now _)
      rw [fit_of (by omega), fit_of (by simp only [List.length_append, List.length_cons, List.length_nil]; omega)]
    | false =>
      refine Ev.congr (fun k => by rw [canopyref5_held.j0, if_neg (by decide)]) ?_
      exact Ev.bind h (Ev.now _)
  refine Ev.step (fun k => rfl) ?_
  unfold held
  by_cases h6 : x.f0 = 6
  · have := j true
    rw [if_pos (.inl h6)]
    exact Ev.congr (fun k => by rw [canopyref5_held.f, if_pos h6]) this
  · cases cat with
    | true =>
      by_cases h5 : x.f0 = 5
      · rw [if_pos (.inr ⟨rfl, h5⟩)]
        exact Ev.congr (fun k => by rw [canopyref5_held.f, if_neg h6, if_pos rfl, beq_iff_eq.mpr h5]) (j true)
      · rw [if_neg (by simp [h5, h6])]
        exact Ev.congr (fun k => by rw [canopyref5_held.f, if_neg h6, if_pos rfl, beq_eq_false_iff_ne.mpr h5]) (j false)
    | false =>
      rw [if_neg (by simp [h6])]
      exact Ev.congr (fun k => by rw [canopyref5_held.f, if_neg h6, if_neg (by decide)]) (j false)
theorem heldsT_drop (cat : Bool) (xs : List S28) (i : Nat) (h : i < xs.length) : heldsT l cat (xs.drop i) = held cat (rd_T28 xs (i : Int)).f0 (textT l (rd_T28 xs (i : Int))) :: heldsT l cat (xs.drop (i + 1)) := by
  rw [rd_drop xs i h, heldsT]
theorem rows_l0 (xs : List S28) (a b c : Int) (hx : ∀ x ∈ xs, (textT l x).length ≤ 100000 ∧ Ev (fun k => canopyref5_Text.f k l x.f0 x.f1 x.f2 x.f3) (B (textT l x))) (hn : xs.length ≤ 1000) : ∀ (d i : Nat) (acc : List UInt8), 0 < i → i + d = xs.length → (acc ++ Lib.joinTail [32] (heldsT l true (xs.drop i))).length ≤ 100000 →
    Ev (fun k => canopyref5_Text.l0 k l (B acc) (i : Int) a b c xs) (B (acc ++ Lib.joinTail [32] (heldsT l true (xs.drop i)))) := by
  intro d
  induction d with
  | zero =>
    intro i acc h0 hi _
    rw [List.drop_eq_nil_of_le (by omega), heldsT_nil, joinTail_nil, List.append_nil]
    refine Ev.step (fun k => rfl) ?_
    exact Ev.congr (f := fun _ => some (B acc)) (fun k => by rw [canopyref5_Text.l0, if_neg (by omega)]) (Ev.now _)
  | succ d ih =>
    intro i acc h0 hi hl
    have hlt : i < xs.length := by omega
    obtain ⟨h1, h2⟩ := hx _ (rd_in xs i hlt)
    rw [heldsT_drop true xs i hlt, joinTail_cons] at hl ⊢
    refine Ev.step (fun k => rfl) ?_
    have hh := heldT_len (l := l) true (rd_T28 xs (i : Int))
    have hl2 := hl
    simp only [List.length_append, List.length_cons, List.length_nil] at hl2
    refine Ev.congr (fun k => by rw [canopyref5_Text.l0, if_pos (by omega), if_pos (by omega), B_size, fit_of (by omega), if_pos (by omega), lit1, B_app]) ?_
    refine Ev.bind (held_ev true h1 h2) ?_
    simp only [B_app, B_size]
    refine Ev.congr (fun k => by rw [fit_of (by simp only [List.length_append, List.length_cons, List.length_nil]; omega), wrap_suc i xs.length hlt (by omega)]) ?_
    have e : ∀ t, acc ++ ([32] ++ held true (rd_T28 xs (i : Int)).f0 (textT l (rd_T28 xs (i : Int))) ++ t) = (acc ++ [32] ++ held true (rd_T28 xs (i : Int)).f0 (textT l (rd_T28 xs (i : Int)))) ++ t := fun t => by simp
    rw [e] at hl ⊢
    exact ih (i + 1) _ (by omega) (by omega) hl
theorem rows_l1 (xs : List S28) (a b c : Int) (hx : ∀ x ∈ xs, (textT l x).length ≤ 100000 ∧ Ev (fun k => canopyref5_Text.f k l x.f0 x.f1 x.f2 x.f3) (B (textT l x))) (hn : xs.length ≤ 1000) : ∀ (d i : Nat) (acc : List UInt8), 0 < i → i + d = xs.length → (acc ++ Lib.joinTail [32, 124, 32] (heldsT l false (xs.drop i))).length ≤ 100000 →
    Ev (fun k => canopyref5_Text.l1 k l (B acc) (i : Int) a b c xs) (B (acc ++ Lib.joinTail [32, 124, 32] (heldsT l false (xs.drop i)))) := by
  intro d
  induction d with
  | zero =>
    intro i acc h0 hi _
    rw [List.drop_eq_nil_of_le (by omega), heldsT_nil, joinTail_nil, List.append_nil]
    refine Ev.step (fun k => rfl) ?_
    exact Ev.congr (f := fun _ => some (B acc)) (fun k => by rw [canopyref5_Text.l1, if_neg (by omega)]) (Ev.now _)
  | succ d ih =>
    intro i acc h0 hi hl
    have hlt : i < xs.length := by omega
    obtain ⟨h1, h2⟩ := hx _ (rd_in xs i hlt)
    rw [heldsT_drop false xs i hlt, joinTail_cons] at hl ⊢
    refine Ev.step (fun k => rfl) ?_
    have hh := heldT_len (l := l) false (rd_T28 xs (i : Int))
    have hl2 := hl
    simp only [List.length_append, List.length_cons, List.length_nil] at hl2
    refine Ev.congr (fun k => by rw [canopyref5_Text.l1, if_pos (by omega), if_pos (by omega), B_size, fit_of (by omega), if_pos (by omega), lit3, B_app]) ?_
    refine Ev.bind (held_ev false h1 h2) ?_
    simp only [B_app, B_size]
    refine Ev.congr (fun k => by rw [fit_of (by simp only [List.length_append, List.length_cons, List.length_nil]; omega), wrap_suc i xs.length hlt (by omega)]) ?_
    have e : ∀ t, acc ++ ([32, 124, 32] ++ held false (rd_T28 xs (i : Int)).f0 (textT l (rd_T28 xs (i : Int))) ++ t) = (acc ++ [32, 124, 32] ++ held false (rd_T28 xs (i : Int)).f0 (textT l (rd_T28 xs (i : Int)))) ++ t := fun t => by simp
    rw [e] at hl ⊢
    exact ih (i + 1) _ (by omega) (by omega) hl
include hg
theorem rtext_ev : ∀ (n : Nat) (e : S28), tsize e ≤ n → n ≤ 1000 → Fit l e → Ev (fun k => canopyref5_Text.f k l e.f0 e.f1 e.f2 e.f3) (B (textT l e))
  | 0, e, h, _, _ => by rw [tsize_eq] at h; omega
  | n + 1, e, h, hn, hf => by
    have hlen := textT_len (good_names hg) e
    have hz := tsize_eq e
    have kid : ∀ x ∈ e.f3, Fit l x → (textT l x).length ≤ 100000 ∧ Ev (fun k => canopyref5_Text.f k l x.f0 x.f1 x.f2 x.f3) (B (textT l x)) := fun x hx hfx => by
      have h1 := tsize_mem hx
      have h2 := textT_len (good_names hg) x
      exact ⟨by omega, rtext_ev n x (by omega) (by omega) hfx⟩
    have hnx := len_tsizeL e.f3
    refine Ev.step (fun k => rfl) ?_
    have hv := view hf
    cases hv with
    | none => exact Ev.congr (f := fun _ => some (B [48])) (fun k => by rw [canopyref5_Text.f]; rfl) (by rw [textT_none]; exact Ev.now _)
    | void => exact Ev.congr (f := fun _ => some (B [49])) (fun k => by rw [canopyref5_Text.f]; rfl) (by rw [textT_void]; exact Ev.now _)
    | sym a h0 h1 =>
      refine Ev.congr (fun k => by rw [canopyref5_Text.f, if_neg (show ¬ (3 : Int) = 1 by decide), if_neg (show ¬ (3 : Int) = 2 by decide), if_pos (show (3 : Int) = 3 from rfl), if_pos (show 0 ≤ a from h0), if_pos (show a < _ from h1), sign_ev hg, Option.bind_some]) ?_
      rw [textT_sym]
      exact Ev.now _
    | nest a b x a0 a1 a2 b0 b1 b2 hx =>
      have hkx := kid x (by simp) hx
      have na := nameT_len (good_names hg) a
      have nb := nameT_len (good_names hg) b
      have hr : rd_T28 [x] 0 = x := rfl
      refine Ev.congr (fun k => by rw [canopyref5_Text.f, if_neg (show ¬ (4 : Int) = 1 by decide), if_neg (show ¬ (4 : Int) = 2 by decide), if_neg (show ¬ (4 : Int) = 3 by decide), if_pos (show (4 : Int) = 4 from rfl), if_pos (show 0 ≤ a from a0), if_pos (show a < _ from a1), if_pos (show (0 : Int) < (([x] : List S28).length : Int) by simp), hr, name_B, name_B, lit1, lit1, lit2, lit2]) ?_
      simp only [B_app, B_size]
      refine Ev.congr (fun k => by rw [fit_of (by omega), fit_of (by simp only [List.length_append, List.length_cons, List.length_nil]; omega)]) ?_
      refine Ev.bind hkx.2 ?_
      simp only [B_app, B_size]
      have hx9 := hkx.1
      refine Ev.congr (f := fun _ => some (B (textT l ⟨4, a, b, [x]⟩))) (fun k => ?_) (Ev.now _)
      rw [fit_of (by simp only [List.length_append, List.length_cons, List.length_nil]; omega), fit_of (by simp only [List.length_append, List.length_cons, List.length_nil]; omega), if_pos (show 0 ≤ b from b0), if_pos (show b < _ from b1), fit_of (by simp only [List.length_append, List.length_cons, List.length_nil]; omega), fit_of (by simp only [List.length_append, List.length_cons, List.length_nil]; omega), textT_nest]
      simp
    | cat x y xs hx =>
      refine Ev.congr (fun k => by rw [canopyref5_Text.f, if_neg (show ¬ (5 : Int) = 1 by decide), if_neg (show ¬ (5 : Int) = 2 by decide), if_neg (show ¬ (5 : Int) = 3 by decide), if_neg (show ¬ (5 : Int) = 4 by decide), if_neg (show ¬ (5 : Int) = 7 by decide), if_pos (show (5 : Int) = 5 from rfl)]) ?_
      have hk : ∀ z ∈ x :: y :: xs, _ := fun z hz => kid z hz (hx z hz)
      have hkx := hk x (by simp)
      have hkl := hkx.1
      have e1 : textT l ⟨5, 0, 0, x :: y :: xs⟩ = held true x.f0 (textT l x) ++ Lib.joinTail [32] (heldsT l true ((x :: y :: xs).drop 1)) := textT_cat _ _ _ _ _
      have hh := heldT_len (l := l) true x
      rw [e1] at hlen ⊢
      refine Ev.step (fun k => rfl) ?_
      refine Ev.congr (fun k => by rw [canopyref5_Text.l0, if_pos (by simp only [List.length_cons]; omega), if_neg (by omega), if_pos (by omega), show rd_T28 (x :: y :: xs) 0 = x from rfl]) ?_
      refine Ev.bind (held_ev true hkl hkx.2) ?_
      rw [show (⟨#[]⟩ : ByteArray) = B [] from rfl]
      simp only [B_app, B_size]
      refine Ev.congr (fun k => by rw [fit_of (by simp only [List.length_nil]; omega)]) ?_
      rw [show wrap64 (0 + 1) = ((1 : Nat) : Int) by unfold wrap64; omega]
      exact rows_l0 (x :: y :: xs) 5 0 0 hk (by simp only at hnx hz; omega) ((x :: y :: xs).length - 1) 1 ([] ++ held true x.f0 (textT l x)) (by omega) (by simp only [List.length_cons]; omega) (by simp only [List.nil_append, List.length_append] at hlen ⊢; omega)
    | or x y xs hx =>
      refine Ev.congr (fun k => by rw [canopyref5_Text.f, if_neg (show ¬ (6 : Int) = 1 by decide), if_neg (show ¬ (6 : Int) = 2 by decide), if_neg (show ¬ (6 : Int) = 3 by decide), if_neg (show ¬ (6 : Int) = 4 by decide), if_neg (show ¬ (6 : Int) = 7 by decide), if_neg (show ¬ (6 : Int) = 5 by decide)]) ?_
      have hk : ∀ z ∈ x :: y :: xs, _ := fun z hz => kid z hz (hx z hz)
      have hkx := hk x (by simp)
      have hkl := hkx.1
      have e1 : textT l ⟨6, 0, 0, x :: y :: xs⟩ = held false x.f0 (textT l x) ++ Lib.joinTail [32, 124, 32] (heldsT l false ((x :: y :: xs).drop 1)) := textT_or _ _ _ _ _
      have hh := heldT_len (l := l) false x
      rw [e1] at hlen ⊢
      refine Ev.step (fun k => rfl) ?_
      refine Ev.congr (fun k => by rw [canopyref5_Text.l1, if_pos (by simp only [List.length_cons]; omega), if_neg (by omega), if_pos (by omega), show rd_T28 (x :: y :: xs) 0 = x from rfl]) ?_
      refine Ev.bind (held_ev false hkl hkx.2) ?_
      rw [show (⟨#[]⟩ : ByteArray) = B [] from rfl]
      simp only [B_app, B_size]
      refine Ev.congr (fun k => by rw [fit_of (by simp only [List.length_nil]; omega)]) ?_
      rw [show wrap64 (0 + 1) = ((1 : Nat) : Int) by unfold wrap64; omega]
      exact rows_l1 (x :: y :: xs) 6 0 0 hk (by simp only at hnx hz; omega) ((x :: y :: xs).length - 1) 1 ([] ++ held false x.f0 (textT l x)) (by omega) (by simp only [List.length_cons]; omega) (by simp only [List.nil_append, List.length_append] at hlen ⊢; omega)
    | star x hx =>
      have hkx := kid x (by simp) hx
      have hkl := hkx.1
      have hh := heldT_len (l := l) true x
      refine Ev.congr (fun k => by rw [canopyref5_Text.f, if_neg (show ¬ (7 : Int) = 1 by decide), if_neg (show ¬ (7 : Int) = 2 by decide), if_neg (show ¬ (7 : Int) = 3 by decide), if_neg (show ¬ (7 : Int) = 4 by decide), if_pos (show (7 : Int) = 7 from rfl), if_pos (show (0 : Int) < (([x] : List S28).length : Int) by simp), show rd_T28 [x] 0 = x from rfl, lit1]) ?_
      refine Ev.bind (held_ev true hkl hkx.2) ?_
      simp only [B_app, B_size]
      refine Ev.congr (f := fun _ => some (B (textT l ⟨7, 0, 0, [x]⟩))) (fun k => ?_) (Ev.now _)
      rw [fit_of (by omega), textT_star]
end
end Go.Proofs.YtodbnnfiadcbaaaL
namespace Go.Proofs.YtodbnnfiadcbaaaL
open Go.RowKit Go.Proofs.Ytodbnnfiadcbaaa.P Go.Proofs.YtodbnnfiadcbaaaW.PrintWords Go.Proofs.YtodbnnfiadcbaaaW.PrintLast Go.Proofs.YtodbnnfiadcbaaaW.PrintMore
set_option linter.unusedSimpArgs false
set_option linter.unusedVariables false
set_option linter.unusedSectionVars false
theorem tformedL_all : ∀ {xs : List S28}, (∀ z ∈ xs, tformed z = true) → tformedL xs = true
  | [], _ => by rw [tformedL]
  | x :: xs, h => by rw [tformedL, h x (by simp), tformedL_all (fun z hz => h z (by simp [hz]))]; rfl
theorem tbadL_all {l : List S56} : ∀ {xs : List S28}, (∀ z ∈ xs, tbad l z = false) → tbadL l xs = false
  | [], _ => by rw [tbadL]
  | x :: xs, h => by rw [tbadL, h x (by simp), tbadL_all (fun z hz => h z (by simp [hz]))]; rfl
theorem ofF_in {l : List S56} {i : Int} (h0 : 0 ≤ i) (h1 : i < (l.length : Int)) : ofF l i = (rd_T56 l i).f1 := by
  unfold ofF
  rw [if_neg (by omega), if_neg (by omega)]
theorem view_fit {l : List S56} (hk : kindsB l = true) {e : S28} (v : View l e) : Fit l e := by
  have mk : ∀ (k a b : Int) (xs : List S28), shF ⟨k, a, b, xs⟩ = true → ovNm l ⟨k, a, b, xs⟩ false = false → (∀ z ∈ xs, Fit l z) → Fit l ⟨k, a, b, xs⟩ := fun k a b xs h1 h2 h3 =>
    ⟨by rw [tformed, h1, tformedL_all (fun z hz => (h3 z hz).1)]; rfl, by rw [tbad, h2, tbadL_all (fun z hz => (h3 z hz).2)]; rfl⟩
  cases v with
  | none => exact mk _ _ _ _ rfl rfl (by simp)
  | void => exact mk _ _ _ _ rfl rfl (by simp)
  | sym a h0 h1 =>
    refine mk _ _ _ _ rfl ?_ (by simp)
    show (false || ofF l a == 0) = false
    rw [ofF_in h0 h1, Bool.false_or, beq_eq_false_iff_ne]
    rcases kind_of hk h0 h1 with q | q | q <;> rw [q] <;> decide
  | nest a b x a0 a1 a2 b0 b1 b2 hx =>
    refine mk _ _ _ _ rfl ?_ (by simpa using hx)
    show (false || (ofF l a != 1 || ofF l b != 2)) = false
    rw [ofF_in a0 a1, ofF_in b0 b1, a2, b2]
    rfl
  | cat x y xs h => exact mk _ _ _ _ (by simp [shF]) rfl h
  | or x y xs h => exact mk _ _ _ _ (by simp [shF]) rfl h
  | star x hx => exact mk _ _ _ _ rfl rfl (by simpa using hx)
section
variable (l : List S56) (ns : List Int) (hl : 0 < l.length) (hl2 : l.length ≤ 1000) (hk : kindsB l = true) (hn : ns.length ≤ 4611686018427387904)
include hl hl2 hk hn
theorem mnext_ev (at_ : Nat) (ha : at_ ≤ ns.length) (n : Int) (h0 : 0 < n) (h1 : n ≤ 1000000) : ∃ (v : Int) (a2 : Nat), a2 ≤ ns.length ∧ 0 ≤ v ∧ v < n ∧ canopylaw5_maker_next.f l ns (at_ : Int) n = some (v, (a2 : Int)) := by
  unfold canopylaw5_maker_next.f
  by_cases h : at_ = ns.length
  · exact ⟨0, at_, by omega, by omega, h0, by rw [if_pos (by omega)]⟩
  · have w1 : wrap64 ((at_ : Int) + 1) = ((at_ + 1 : Nat) : Int) := by unfold wrap64; omega
    have w2 : wrap64 (((at_ + 1 : Nat) : Int) - 1) = (at_ : Int) := by unfold wrap64; omega
    refine ⟨rd ns (at_ : Int) % n, at_ + 1, by omega, Int.emod_nonneg _ (by omega), Int.emod_lt_of_pos _ h0, ?_⟩
    rw [if_neg (by omega), w1, w2, if_pos (by omega), if_pos (by omega), within_eq _ _ h0 h1, Option.bind_some]
theorem pick_l0 (kind v : Int) (hv : 0 ≤ v) (hv2 : v < (l.length : Int)) (A : Int) : ∀ (d i : Nat), i + d = l.length → ∃ r : Int, (0 ≤ r → r < (l.length : Int) ∧ (rd_T56 l r).f1 = kind) ∧ Ev (fun k => canopylaw5_maker_pick.l0 k kind v (i : Int) l ns A) (r, A) := by
  intro d
  induction d with
  | zero =>
    intro i hi
    refine ⟨-1, fun h => by omega, Ev.step (fun k => rfl) ?_⟩
    exact Ev.congr (f := fun _ => some (-1, A)) (fun k => by rw [canopylaw5_maker_pick.l0, if_neg (by omega)]) (Ev.now _)
  | succ d ih =>
    intro i hi
    have w : wrap64 (v + (i : Int)) = v + i := by unfold wrap64; omega
    have t0 : Int.tmod (v + (i : Int)) (l.length : Int) = (v + i) % (l.length : Int) := Int.tmod_eq_emod_of_nonneg (by omega)
    have m0 := Int.emod_nonneg (v + (i : Int)) (show ((l.length : Nat) : Int) ≠ 0 by omega)
    have m1 := Int.emod_lt_of_pos (v + (i : Int)) (show (0 : Int) < ((l.length : Nat) : Int) by omega)
    have st : ∀ k, canopylaw5_maker_pick.l0 (k + 1) kind v (i : Int) l ns A = if (rd_T56 l ((v + (i : Int)) % (l.length : Int))).f1 = kind then some ((v + (i : Int)) % (l.length : Int), A) else canopylaw5_maker_pick.l0 k kind v (wrap64 ((i : Int) + 1)) l ns A := fun k => by
      rw [canopylaw5_maker_pick.l0, if_pos (by omega), if_neg (by omega), w, t0, if_pos m0, if_pos m1]
    by_cases h : (rd_T56 l ((v + (i : Int)) % (l.length : Int))).f1 = kind
    · exact ⟨_, fun _ => ⟨m1, h⟩, Ev.step st (Ev.congr (f := fun _ => some ((v + (i : Int)) % (l.length : Int), A)) (fun k => by rw [if_pos h]) (Ev.now _))⟩
    · obtain ⟨r, hp, hr⟩ := ih (i + 1) (by omega)
      refine ⟨r, hp, Ev.step st (Ev.congr (fun k => by rw [if_neg h, wrap_suc i l.length (by omega) (by omega)]) hr)⟩
theorem pick_ev (at_ : Nat) (ha : at_ ≤ ns.length) (kind : Int) : ∃ (r : Int) (a2 : Nat), (0 ≤ r → r < (l.length : Int) ∧ (rd_T56 l r).f1 = kind) ∧ a2 ≤ ns.length ∧ Ev (fun k => canopylaw5_maker_pick.f k l ns (at_ : Int) kind) (r, (a2 : Int)) := by
  obtain ⟨v, a2, h1, h2, h3, h4⟩ := mnext_ev l ns hl hl2 hk hn at_ ha (l.length : Int) (by omega) (by omega)
  obtain ⟨r, hp, hr⟩ := pick_l0 l ns hl hl2 hk hn kind v h2 h3 (a2 : Int) l.length 0 (by omega)
  refine ⟨r, a2, hp, h1, ?_⟩
  unfold canopylaw5_maker_pick.f
  rw [h4]
  exact hr
/-- A result of a drawing: a tree, and how far. -/
def drawn (e : S28) (a : Nat) : Int × Int × Int × List S28 × Int := (e.f0, e.f1, e.f2, e.f3, (a : Int))
def Drew (l : List S56) (F : Nat → Option (Int × Int × Int × List S28 × Int)) (m b : Nat) : Prop := ∃ (e : S28) (a : Nat), a ≤ m ∧ (tsize e ≤ b ∧ Fit l e) ∧ Ev F (drawn e a)
omit hl hl2 hk hn in
theorem Drew.step {F G : Nat → Option (Int × Int × Int × List S28 × Int)} {m b : Nat} (h : ∀ k, F (k + 1) = G k) (d : Drew l G m b) : Drew l F m b := by
  obtain ⟨e, a, h1, h2, h3⟩ := d
  exact ⟨e, a, h1, h2, Ev.step h h3⟩
omit hl hl2 hk hn in
theorem Drew.congr {F G : Nat → Option (Int × Int × Int × List S28 × Int)} {m b : Nat} (h : ∀ k, F k = G k) (d : Drew l G m b) : Drew l F m b := by
  have : F = G := funext h
  rw [this]; exact d
omit hl hl2 hk hn in
theorem Drew.bind {α : Type} {F : Nat → Option α} {C : Nat → α → Option (Int × Int × Int × List S28 × Int)} {m b : Nat} {x : α} (h : Ev F x) (d : Drew l (fun k => C k x) m b) : Drew l (fun k => (F k).bind (C k)) m b := by
  obtain ⟨e, a, h1, h2, h3⟩ := d
  exact ⟨e, a, h1, h2, Ev.bind h h3⟩
omit hl hl2 hk hn in
theorem Drew.now (e : S28) (a m b : Nat) (h1 : a ≤ m) (h2 : tsize e ≤ b ∧ Fit l e) : Drew l (fun _ => some (drawn e a)) m b := ⟨e, a, h1, h2, Ev.now _⟩
omit hl hl2 hk hn in
theorem fit_eta {e : S28} (h : Fit l e) : Fit l ⟨e.f0, e.f1, e.f2, e.f3⟩ := by cases e; exact h
omit hl hl2 hk hn in
theorem leaf_size (k a b : Int) : tsize ⟨k, a, b, []⟩ = 1 := by rw [tsize, tsizeL]
omit hl hl2 hk hn in
theorem one_size (k a b : Int) (x : S28) : tsize ⟨k, a, b, [⟨x.f0, x.f1, x.f2, x.f3⟩]⟩ = tsize x + 1 := by
  cases x
  rw [tsize, tsizeL, tsizeL, Nat.add_zero]
theorem leaf1 (at_ : Nat) (ha : at_ ≤ ns.length) (x1 : Int) (nest : Bool) (x7 x18 : Int) (b : Nat) (hb : 1 ≤ b) : Drew l (fun k => canopylaw5_maker_make.j1 k x1 nest x7 x18 true l ns (at_ : Int)) ns.length b := by
  obtain ⟨v, a2, h1, h2, h3, h4⟩ := mnext_ev l ns hl hl2 hk hn at_ ha (l.length : Int) (by omega) (by omega)
  refine Drew.step l (fun k => rfl) ?_
  refine Drew.congr l (fun k => by rw [canopylaw5_maker_make.j1, if_pos rfl, h4, Option.bind_some]) ?_
  cases nest with
  | true =>
    obtain ⟨r, a3, hp, h5, h6⟩ := pick_ev l ns hl hl2 hk hn a2 h1 3
    refine Drew.congr l (fun k => by rw [if_pos rfl]) (Drew.bind l h6 ?_)
    by_cases hr : r ≥ 0
    · exact Drew.congr l (fun k => by rw [if_pos hr]; rfl) (Drew.now l ⟨3, r, 0, []⟩ a3 _ _ h5 ⟨by rw [leaf_size]; exact hb, view_fit hk (.sym r hr (hp hr).1)⟩)
    · exact Drew.congr l (fun k => by rw [if_neg hr]; rfl) (Drew.now l ⟨1, 0, 0, []⟩ a3 _ _ h5 ⟨by rw [leaf_size]; exact hb, view_fit hk .none⟩)
  | false =>
    exact Drew.congr l (fun k => by rw [if_neg (by decide), if_pos h2]; rfl) (Drew.now l ⟨3, v, 0, []⟩ a2 _ _ h1 ⟨by rw [leaf_size]; exact hb, view_fit hk (.sym v h2 h3)⟩)
/-- What stands behind: no tree below. -/
theorem rest0 (at_ : Nat) (ha : at_ ≤ ns.length) (x1 : Int) (nest : Bool) (x18 : Int) (h : ¬ (5 ≤ x18 ∧ x18 ≤ 13)) (b : Nat) (hb : 1 ≤ b) (x7 : Int) : Drew l (fun k => canopylaw5_maker_make.j1 k x1 nest x7 x18 false l ns (at_ : Int)) ns.length b := by
  refine Drew.step l (fun k => rfl) ?_
  refine Drew.congr l (fun k => by rw [canopylaw5_maker_make.j1, if_neg (by decide), if_neg (show ¬ x18 = 5 by omega), if_neg (show ¬ x18 = 6 by omega)]) ?_
  refine Drew.step l (fun k => rfl) ?_
  have e7 : (x18 == 7) = false := beq_eq_false_iff_ne.mpr (by omega)
  refine Drew.congr l (fun k => by rw [canopylaw5_maker_make.j2, e7, if_neg (by decide), if_neg (show ¬ x18 = 8 by omega), if_neg (show ¬ x18 = 9 by omega), if_neg (show ¬ x18 = 10 by omega)]) ?_
  refine Drew.step l (fun k => rfl) ?_
  have e11 : (x18 == 11) = false := beq_eq_false_iff_ne.mpr (by omega)
  exact Drew.congr l (fun k => by rw [canopylaw5_maker_make.j3, e11, if_neg (by decide), if_neg (show ¬ x18 = 12 by omega), if_neg (show ¬ x18 = 13 by omega)]; rfl) (Drew.now l ⟨1, 0, 0, []⟩ at_ _ _ ha ⟨by rw [leaf_size]; exact hb, view_fit hk .none⟩)
theorem make_ev : ∀ (d : Nat), d ≤ 100 → ∀ (nest : Bool) (at_ : Nat), at_ ≤ ns.length → Drew l (fun k => canopylaw5_maker_make.f k l ns (at_ : Int) (d : Int) nest) ns.length (4 ^ d) := by
  intro d
  induction d with
  | zero =>
    intro hd nest at_ ha
    obtain ⟨v, a2, h1, h2, h3, h4⟩ := mnext_ev l ns hl hl2 hk hn at_ ha 14 (by omega) (by omega)
    refine Drew.step l (fun k => rfl) ?_
    have t5 : Int.tmod v 5 = v % 5 := Int.tmod_eq_emod_of_nonneg h2
    refine Drew.congr l (fun k => by rw [canopylaw5_maker_make.f, h4, Option.bind_some, if_pos (by omega), t5]) ?_
    have m0 := Int.emod_nonneg v (show (5 : Int) ≠ 0 by omega)
    have m1 := Int.emod_lt_of_pos v (show (0 : Int) < 5 by omega)
    generalize v % 5 = q at m0 m1
    refine Drew.step l (fun k => rfl) ?_
    by_cases q0 : q = 0
    · exact Drew.congr l (fun k => by rw [canopylaw5_maker_make.j0, if_pos q0]; rfl) (Drew.now l ⟨2, 0, 0, []⟩ a2 _ _ h1 ⟨by rw [leaf_size]; exact Nat.le_refl _, view_fit hk .void⟩)
    by_cases q1 : q = 1
    · have e : (q == 1) = true := beq_iff_eq.mpr q1
      exact Drew.congr l (fun k => by rw [canopylaw5_maker_make.j0, if_neg q0, if_pos q1, e]) (leaf1 l ns hl hl2 hk hn a2 h1 _ nest _ _ _ (Nat.le_refl _))
    by_cases q2 : q = 2
    · have e : (q == 2) = true := beq_iff_eq.mpr q2
      exact Drew.congr l (fun k => by rw [canopylaw5_maker_make.j0, if_neg q0, if_neg q1, if_pos q2, e]) (leaf1 l ns hl hl2 hk hn a2 h1 _ nest _ _ _ (Nat.le_refl _))
    by_cases q3 : q = 3
    · have e : (q == 3) = true := beq_iff_eq.mpr q3
      exact Drew.congr l (fun k => by rw [canopylaw5_maker_make.j0, if_neg q0, if_neg q1, if_neg q2, e]) (leaf1 l ns hl hl2 hk hn a2 h1 _ nest _ _ _ (Nat.le_refl _))
    · have e : (q == 3) = false := beq_eq_false_iff_ne.mpr q3
      exact Drew.congr l (fun k => by rw [canopylaw5_maker_make.j0, if_neg q0, if_neg q1, if_neg q2, e]) (rest0 l ns hl hl2 hk hn a2 h1 _ nest _ (by omega) _ (Nat.le_refl _) _)
  | succ d ih =>
    intro hd nest at_ ha
    have ih := ih (by omega)
    have p1 : 1 ≤ 4 ^ d := Nat.one_le_pow _ _ (by decide)
    have p2 : 4 ^ (d + 1) = 4 * 4 ^ d := by rw [Nat.pow_succ, Nat.mul_comm]
    have wd : wrap64 (((d + 1 : Nat) : Int) - 1) = (d : Int) := by unfold wrap64; omega
    obtain ⟨v, a2, h1, h2, h3, h4⟩ := mnext_ev l ns hl hl2 hk hn at_ ha 14 (by omega) (by omega)
    refine Drew.step l (fun k => rfl) ?_
    refine Drew.congr l (fun k => by rw [canopylaw5_maker_make.f, h4, Option.bind_some, if_neg (by omega)]) ?_
    generalize v = q at h2 h3
    refine Drew.step l (fun k => rfl) ?_
    by_cases q0 : q = 0
    · exact Drew.congr l (fun k => by rw [canopylaw5_maker_make.j0, if_pos q0]; rfl) (Drew.now l ⟨2, 0, 0, []⟩ a2 _ _ h1 ⟨by rw [leaf_size]; omega, view_fit hk .void⟩)
    by_cases q1 : q = 1
    · have e : (q == 1) = true := beq_iff_eq.mpr q1
      exact Drew.congr l (fun k => by rw [canopylaw5_maker_make.j0, if_neg q0, if_pos q1, e]) (leaf1 l ns hl hl2 hk hn a2 h1 _ nest _ _ _ (by omega))
    by_cases q2 : q = 2
    · have e : (q == 2) = true := beq_iff_eq.mpr q2
      exact Drew.congr l (fun k => by rw [canopylaw5_maker_make.j0, if_neg q0, if_neg q1, if_pos q2, e]) (leaf1 l ns hl hl2 hk hn a2 h1 _ nest _ _ _ (by omega))
    by_cases q3 : q = 3
    · have e : (q == 3) = true := beq_iff_eq.mpr q3
      exact Drew.congr l (fun k => by rw [canopylaw5_maker_make.j0, if_neg q0, if_neg q1, if_neg q2, e]) (leaf1 l ns hl hl2 hk hn a2 h1 _ nest _ _ _ (by omega))
    have e3 : (q == 3) = false := beq_eq_false_iff_ne.mpr q3
    refine Drew.congr l (fun k => by rw [canopylaw5_maker_make.j0, if_neg q0, if_neg q1, if_neg q2, e3]) ?_
    by_cases q4 : q = 4
    · exact rest0 l ns hl hl2 hk hn a2 h1 _ nest _ (by omega) _ (by omega) _
    -- a nest
    have nest2 : Drew l (fun k => canopylaw5_maker_make.j2 k ((d + 1 : Nat) : Int) nest q q true l ns (a2 : Int)) ns.length (4 ^ (d + 1)) := by
      obtain ⟨r, a3, hp, h5, h6⟩ := pick_ev l ns hl hl2 hk hn a2 h1 1
      obtain ⟨r2, a4, hp2, h7, h8⟩ := pick_ev l ns hl hl2 hk hn a3 h5 2
      refine Drew.step l (fun k => rfl) ?_
      refine Drew.congr l (fun k => by rw [canopylaw5_maker_make.j2, if_pos rfl]) ?_
      refine Drew.bind l h6 (Drew.bind l h8 ?_)
      by_cases c1 : r ≥ 0
      · by_cases c2 : r2 ≥ 0
        · obtain ⟨e, a5, h9, h10, h11⟩ := ih true a4 h7
          refine Drew.congr l (fun k => by rw [if_pos c1, if_pos c2, wd]) (Drew.bind l h11 ?_)
          exact Drew.now l ⟨4, r, r2, [⟨e.f0, e.f1, e.f2, e.f3⟩]⟩ a5 _ _ h9 ⟨by rw [one_size]; have := h10.1; omega, view_fit hk (.nest r r2 _ c1 (hp c1).1 (hp c1).2 c2 (hp2 c2).1 (hp2 c2).2 (fit_eta l h10.2))⟩
        · exact Drew.congr l (fun k => by rw [if_pos c1, if_neg c2]; rfl) (Drew.now l ⟨1, 0, 0, []⟩ a4 _ _ h7 ⟨by rw [leaf_size]; omega, view_fit hk .none⟩)
      · exact Drew.congr l (fun k => by rw [if_neg c1]; rfl) (Drew.now l ⟨1, 0, 0, []⟩ a4 _ _ h7 ⟨by rw [leaf_size]; omega, view_fit hk .none⟩)
    have kind56 : ∀ (x y : S28) (xs : List S28), (∀ z ∈ x :: y :: xs, Fit l z) → Fit l ⟨wrap64 (5 + Int.tmod q 2), 0, 0, x :: y :: xs⟩ := fun x y xs hxs => by
      have t2 : Int.tmod q 2 = q % 2 := Int.tmod_eq_emod_of_nonneg h2
      have m0 := Int.emod_nonneg q (show (2 : Int) ≠ 0 by omega)
      have m1 := Int.emod_lt_of_pos q (show (0 : Int) < 2 by omega)
      rw [t2]
      rcases (show q % 2 = 0 ∨ q % 2 = 1 by omega) with z | z <;> rw [z]
      · rw [show wrap64 (5 + 0) = 5 by unfold wrap64; omega]; exact view_fit hk (.cat x y xs hxs)
      · rw [show wrap64 (5 + 1) = 6 by unfold wrap64; omega]; exact view_fit hk (.or x y xs hxs)
    have rows3 : Drew l (fun k => canopylaw5_maker_make.j3 k ((d + 1 : Nat) : Int) nest q q true l ns (a2 : Int)) ns.length (4 ^ (d + 1)) := by
      obtain ⟨e, a3, h5, h6, h7⟩ := ih nest a2 h1
      obtain ⟨e2, a4, h8, h9, h10⟩ := ih nest a3 h5
      obtain ⟨z, a5, h11, h12, h13, h14⟩ := mnext_ev l ns hl hl2 hk hn a4 h8 3 (by omega) (by omega)
      refine Drew.step l (fun k => rfl) ?_
      refine Drew.congr l (fun k => by rw [canopylaw5_maker_make.j3, if_pos rfl, wd]) ?_
      refine Drew.bind l h7 (Drew.bind l h10 ?_)
      refine Drew.congr l (fun k => by rw [Option.bind_some, show canopylaw5_maker_next.f l ns (drawn e2 a4).2.2.2.2 3 = _ from h14, Option.bind_some]) ?_
      have s2 : tsizeL [(⟨e.f0, e.f1, e.f2, e.f3⟩ : S28), ⟨e2.f0, e2.f1, e2.f2, e2.f3⟩] = tsize e + tsize e2 := by
        cases e; cases e2
        rw [tsizeL, tsizeL, tsizeL]; rfl
      by_cases c : z = 0
      · obtain ⟨e3, a6, h15, h16, h17⟩ := ih nest a5 h11
        refine Drew.congr l (fun k => by rw [if_pos c]) (Drew.bind l h17 ?_)
        refine Drew.congr l (fun k => by rw [if_pos (by simp only [List.length_cons, List.length_nil]; omega)]; rfl) (Drew.now l ⟨wrap64 (5 + Int.tmod q 2), 0, 0, [(⟨e.f0, e.f1, e.f2, e.f3⟩ : S28), ⟨e2.f0, e2.f1, e2.f2, e2.f3⟩] ++ [⟨e3.f0, e3.f1, e3.f2, e3.f3⟩]⟩ a6 _ _ h15 ?_)
        have s3 : tsize (⟨e3.f0, e3.f1, e3.f2, e3.f3⟩ : S28) = tsize e3 := by cases e3; rfl
        refine ⟨?_, ?_⟩
        · rw [tsize, tsizeL_snoc, s2, s3]
          have := h6.1; have := h9.1; have := h16.1
          omega
        · refine kind56 _ _ [_] (fun z hz => ?_)
          simp only [List.mem_cons, List.not_mem_nil, or_false] at hz
          rcases hz with rfl | rfl | rfl
          · exact fit_eta l h6.2
          · exact fit_eta l h9.2
          · exact fit_eta l h16.2
      · exact Drew.congr l (fun k => by rw [if_neg c]; rfl) (Drew.now l ⟨wrap64 (5 + Int.tmod q 2), 0, 0, [(⟨e.f0, e.f1, e.f2, e.f3⟩ : S28), ⟨e2.f0, e2.f1, e2.f2, e2.f3⟩]⟩ a5 _ _ h11 ⟨by rw [tsize, s2]; have := h6.1; have := h9.1; omega, by
          refine kind56 _ _ [] (fun z hz => ?_)
          simp only [List.mem_cons, List.not_mem_nil, or_false] at hz
          rcases hz with rfl | rfl
          · exact fit_eta l h6.2
          · exact fit_eta l h9.2⟩)
    have star : Drew l (fun k => (canopylaw5_maker_make.f k l ns (a2 : Int) (wrap64 (((d + 1 : Nat) : Int) - 1)) nest).bind fun bt787 => (some (7, 0, 0, (([(⟨bt787.1, bt787.2.1, bt787.2.2.1, bt787.2.2.2.1⟩ : S28)] : List (S28))), bt787.2.2.2.2) : Option (Int × Int × Int × List S28 × Int))) ns.length (4 ^ (d + 1)) := by
      obtain ⟨e, a3, h5, h6, h7⟩ := ih nest a2 h1
      refine Drew.congr l (fun k => by rw [wd]) (Drew.bind l h7 ?_)
      exact Drew.now l ⟨7, 0, 0, [⟨e.f0, e.f1, e.f2, e.f3⟩]⟩ a3 _ _ h5 ⟨by rw [one_size]; have := h6.1; omega, view_fit hk (.star _ (fit_eta l h6.2))⟩
    refine Drew.step l (fun k => rfl) ?_
    by_cases q5 : q = 5
    · have e : (q == 5) = true := beq_iff_eq.mpr q5
      exact Drew.congr l (fun k => by rw [canopylaw5_maker_make.j1, if_neg (by decide), if_pos q5, e]) nest2
    by_cases q6 : q = 6
    · have e : (q == 6) = true := beq_iff_eq.mpr q6
      exact Drew.congr l (fun k => by rw [canopylaw5_maker_make.j1, if_neg (by decide), if_neg q5, if_pos q6, e]) nest2
    by_cases q7 : q = 7
    · have e : (q == 7) = true := beq_iff_eq.mpr q7
      exact Drew.congr l (fun k => by rw [canopylaw5_maker_make.j1, if_neg (by decide), if_neg q5, if_neg q6, e]) nest2
    have e7 : (q == 7) = false := beq_eq_false_iff_ne.mpr q7
    refine Drew.congr l (fun k => by rw [canopylaw5_maker_make.j1, if_neg (by decide), if_neg q5, if_neg q6, e7]) ?_
    refine Drew.step l (fun k => rfl) ?_
    by_cases q8 : q = 8
    · have e : (q == 8) = true := beq_iff_eq.mpr q8
      exact Drew.congr l (fun k => by rw [canopylaw5_maker_make.j2, if_neg (by decide), if_pos q8, e]) rows3
    by_cases q9 : q = 9
    · have e : (q == 9) = true := beq_iff_eq.mpr q9
      exact Drew.congr l (fun k => by rw [canopylaw5_maker_make.j2, if_neg (by decide), if_neg q8, if_pos q9, e]) rows3
    by_cases q10 : q = 10
    · have e : (q == 10) = true := beq_iff_eq.mpr q10
      exact Drew.congr l (fun k => by rw [canopylaw5_maker_make.j2, if_neg (by decide), if_neg q8, if_neg q9, if_pos q10, e]) rows3
    by_cases q11 : q = 11
    · have e : (q == 11) = true := beq_iff_eq.mpr q11
      exact Drew.congr l (fun k => by rw [canopylaw5_maker_make.j2, if_neg (by decide), if_neg q8, if_neg q9, if_neg q10, e]) rows3
    have e11 : (q == 11) = false := beq_eq_false_iff_ne.mpr q11
    refine Drew.congr l (fun k => by rw [canopylaw5_maker_make.j2, if_neg (by decide), if_neg q8, if_neg q9, if_neg q10, e11]) ?_
    refine Drew.step l (fun k => rfl) ?_
    by_cases q12 : q = 12
    · exact Drew.congr l (fun k => by rw [canopylaw5_maker_make.j3, if_neg (by decide), if_pos q12]) star
    · exact Drew.congr l (fun k => by rw [canopylaw5_maker_make.j3, if_neg (by decide), if_neg q12, if_pos (by omega)]) star
theorem Make_ev (d : Nat) (hd : d ≤ 10) : ∃ e : S28, (tsize e ≤ 4 ^ d ∧ Fit l e) ∧ Ev (fun k => canopylaw5_Make.f k l ns (d : Int)) (e.f0, e.f1, e.f2, e.f3) := by
  obtain ⟨e, a, h1, h2, h3⟩ := make_ev l ns hl hl2 hk hn d (by omega) false 0 (by omega)
  refine ⟨e, h2, ?_⟩
  unfold canopylaw5_Make.f
  exact Ev.bind h3 (Ev.now _)
end
end Go.Proofs.YtodbnnfiadcbaaaL
namespace Go.Proofs.YtodbnnfiadcbaaaL
open Go.RowKit Go.Proofs.Ytodbnnfiadcbaaa.P Go.Proofs.YtodbnnfiadcbaaaW.PrintWords Go.Proofs.YtodbnnfiadcbaaaW.PrintLast Go.Proofs.YtodbnnfiadcbaaaW.PrintMore
set_option linter.unusedSimpArgs false
set_option linter.unusedVariables false
section
variable (l : List S56) (s : List UInt8)
theorem and_tot {f : Nat → Option Rs} {g : Nat → S28 → Nat → Option Rs} (h : ∃ r, Ev f r) (h2 : ∀ v p, Ev f (.ok v p) → ∃ r, Ev (fun k => g k v p) r) : ∃ r, Ev (fun k => Rs.and (f k) (g k)) r := by
  obtain ⟨r, hr⟩ := h
  cases r with
  | ok v p =>
    obtain ⟨r2, h3⟩ := h2 v p hr
    exact ⟨r2, Rs.and_ev hr h3⟩
  | err e p =>
    refine ⟨.err e p, ?_⟩
    obtain ⟨K, hK⟩ := hr
    refine ⟨K, fun k hk => ?_⟩
    show Rs.and (f k) (g k) = _
    rw [hK k hk]; rfl
theorem tot_step {f g : Nat → Option Rs} (h : ∀ k, f (k + 1) = g k) (h2 : ∃ r, Ev g r) : ∃ r, Ev f r := by
  obtain ⟨r, hr⟩ := h2
  exact ⟨r, Ev.step h hr⟩
theorem tot_now {f : Nat → Option Rs} {r : Rs} (h : ∀ k, f (k + 1) = some r) : ∃ r, Ev f r := ⟨r, Ev.step h (Ev.now _)⟩
structure Tot (m : Nat) : Prop where
  atom : ∀ d f, f ≤ s.length → s.length - f ≤ m → ∃ r, Ev (fun n => aAtom l s n d f) r
  stars : ∀ x f, f ≤ s.length → s.length - f ≤ m → ∃ r, Ev (fun n => aStars l s n x f) r
  rep : ∀ d f, f ≤ s.length → s.length - f ≤ m → ∃ r, Ev (fun n => aRep l s n d f) r
  cats : ∀ d acc f, f ≤ s.length → s.length - f ≤ m → ∃ r, Ev (fun n => aCats l s n d acc f) r
  cat : ∀ d f, f ≤ s.length → s.length - f ≤ m → ∃ r, Ev (fun n => aCat l s n d f) r
  ors : ∀ d acc f, f ≤ s.length → s.length - f ≤ m → ∃ r, Ev (fun n => aOrs l s n d acc f) r
  or : ∀ d f, f ≤ s.length → s.length - f ≤ m → ∃ r, Ev (fun n => aOr l s n d f) r
theorem ev_some {α : Type} {f : Nat → Option α} {r : α} (h : Ev f r) : ∃ n, f n = some r := by
  obtain ⟨K, hK⟩ := h
  exact ⟨K, hK K (Nat.le_refl _)⟩
theorem tot_all (m : Nat) (below : ∀ j, j < m → Tot l s j) : Tot l s m := by
  have low : ∀ f g, f < g → g ≤ s.length → s.length - f ≤ m → Tot l s (s.length - g) ∧ s.length - g ≤ s.length - g := fun f g h1 h2 h3 => ⟨below _ (by omega), Nat.le_refl _⟩
  have atom : ∀ d f, f ≤ s.length → s.length - f ≤ m → ∃ r, Ev (fun n => aAtom l s n d f) r := by
    intro d f hf hm
    obtain ⟨t, j, ht⟩ : ∃ t j, tokAt (s.drop f) = (t, j) := ⟨_, _, rfl⟩
    cases t with
    | one c =>
      have e1 := one_step (s := s) (f := f) (c := c) (by rw [ht]; simp [Tk.isOne]) hf
      by_cases h48 : c = 48
      · exact tot_now (r := .ok ⟨1, 0, 0, []⟩ (nx s (f + 1))) (fun k => by rw [aAtom, ht]; simp only [if_pos h48])
      by_cases h49 : c = 49
      · exact tot_now (r := .ok ⟨2, 0, 0, []⟩ (nx s (f + 1))) (fun k => by rw [aAtom, ht]; simp only [if_neg h48, if_pos h49])
      by_cases h40 : c = 40
      · by_cases hd : 40 < d
        · exact tot_now (r := .err 3 f) (fun k => by rw [aAtom, ht]; simp only [if_neg h48, if_neg h49, if_pos h40, if_pos hd])
        · subst h40
          refine tot_step (fun k => aAtom_paren e1.2.2 hd) ?_
          refine and_tot ((low f _ e1.1 e1.2.1 hm).1.or _ _ e1.2.1 (Nat.le_refl _)) fun v p _ => ?_
          by_cases hq : (tokAt (s.drop p)).1.isOne 41 = true
          · exact ⟨.ok v (nx s (p + 1)), Ev.congr (f := fun _ => some (.ok v (nx s (p + 1)))) (fun k => by rw [if_pos hq]) (Ev.now _)⟩
          · exact ⟨.err 1 p, Ev.congr (f := fun _ => some (.err 1 p)) (fun k => by rw [if_neg hq]) (Ev.now _)⟩
      · exact tot_now (r := .err 1 f) (fun k => by rw [aAtom, ht]; simp only [if_neg h48, if_neg h49, if_neg h40])
    | sym nm k =>
      cases hq : findT l nm k 0 with
      | some i => exact tot_now (r := .ok ⟨3, i, 0, []⟩ (nx s (f + j))) (fun k => by rw [aAtom, ht]; simp only [hq])
      | none => exact tot_now (r := .err 6 f) (fun k => by rw [aAtom, ht]; simp only [hq])
    | nest nm =>
      cases hq : findT l nm 1 0 with
      | none => exact tot_now (r := .err 6 f) (fun k => by rw [aAtom, ht]; simp only [hq])
      | some a =>
        by_cases hd : 40 < d
        · exact tot_now (r := .err 3 f) (fun k => by rw [aAtom, ht]; simp only [hq]; rw [if_pos hd])
        · have e1 := nx_step ht rfl (by simp [Tk.K]) hf
          refine tot_step (fun k => aAtom_nest ht hq hd) ?_
          refine and_tot ((low f _ e1.1 e1.2 hm).1.or _ _ e1.2 (Nat.le_refl _)) fun v p _ => ?_
          cases hr : aNestEnd l s a v p with
          | some r => exact ⟨r, Ev.now _⟩
          | none =>
            unfold aNestEnd at hr
            split at hr
            · split at hr <;> cases hr
            · cases hr
    | eof => exact tot_now (r := .err 1 f) (fun k => by rw [aAtom, ht])
    | bad => exact tot_now (r := .err 1 f) (fun k => by rw [aAtom, ht])
    | over nm => exact tot_now (r := .err 1 f) (fun k => by rw [aAtom, ht])
  have stars : ∀ x f, f ≤ s.length → s.length - f ≤ m → ∃ r, Ev (fun n => aStars l s n x f) r := by
    intro x f hf hm
    by_cases hq : (tokAt (s.drop f)).1.isOne 42 = true
    · have e1 := one_step hq hf
      exact tot_step (fun k => by rw [aStars, if_pos hq]) ((low f _ e1.1 e1.2.1 hm).1.stars _ _ e1.2.1 (Nat.le_refl _))
    · exact tot_now (r := .ok x f) (fun k => by rw [aStars, if_neg hq])
  have bounds : ∀ {F : Nat → Option Rs} {v : S28} {p f : Nat}, Ev F (.ok v p) → (∀ n, F n = some (.ok v p) → tsize v + 1 + 2 * f ≤ 2 * p ∧ p ≤ s.length) → f < p ∧ p ≤ s.length := fun h hb => by
    obtain ⟨n, hn⟩ := ev_some h
    have := hb n hn
    omega
  have rep : ∀ d f, f ≤ s.length → s.length - f ≤ m → ∃ r, Ev (fun n => aRep l s n d f) r := by
    intro d f hf hm
    refine tot_step (fun k => by rw [aRep]) ?_
    refine and_tot (atom d f hf hm) fun v p h => ?_
    have b := bounds h (fun n hn => (bnd l s n).atom d f v p hf hn)
    exact stars v p b.2 (by omega)
  have repb : ∀ {d f v p}, f ≤ s.length → Ev (fun n => aRep l s n d f) (.ok v p) → f < p ∧ p ≤ s.length := fun {d f v p} hf h => bounds h (fun n hn => (bnd l s n).rep d f v p hf hn)
  have cats : ∀ d acc f, f ≤ s.length → s.length - f ≤ m → ∃ r, Ev (fun n => aCats l s n d acc f) r := by
    intro d acc f hf hm
    by_cases hq : (tokAt (s.drop f)).1.begins = true
    · refine tot_step (fun k => by rw [aCats, if_pos hq]) ?_
      refine and_tot (rep d f hf hm) fun v p h => ?_
      have b := repb hf h
      exact (low f p b.1 b.2 hm).1.cats d _ p b.2 (Nat.le_refl _)
    · exact tot_now (r := .ok (severalT 5 acc) f) (fun k => by rw [aCats, if_neg hq])
  have cat : ∀ d f, f ≤ s.length → s.length - f ≤ m → ∃ r, Ev (fun n => aCat l s n d f) r := by
    intro d f hf hm
    refine tot_step (fun k => by rw [aCat]) ?_
    refine and_tot (rep d f hf hm) fun v p h => ?_
    have b := repb hf h
    exact cats d _ p b.2 (by omega)
  have catb : ∀ {d f v p}, f ≤ s.length → Ev (fun n => aCat l s n d f) (.ok v p) → f < p ∧ p ≤ s.length := fun {d f v p} hf h => bounds h (fun n hn => (bnd l s n).cat d f v p hf hn)
  have ors : ∀ d acc f, f ≤ s.length → s.length - f ≤ m → ∃ r, Ev (fun n => aOrs l s n d acc f) r := by
    intro d acc f hf hm
    by_cases hq : (tokAt (s.drop f)).1.isOne 124 = true
    · have e1 := one_step hq hf
      have low1 := (low f _ e1.1 e1.2.1 hm).1
      refine tot_step (fun k => by rw [aOrs, if_pos hq]) ?_
      refine and_tot (low1.cat d _ e1.2.1 (Nat.le_refl _)) fun v p h => ?_
      have b := catb e1.2.1 h
      exact low1.ors d _ p b.2 (by omega)
    · exact tot_now (r := .ok (severalT 6 acc) f) (fun k => by rw [aOrs, if_neg hq])
  refine ⟨atom, stars, rep, cats, cat, ors, fun d f hf hm => ?_⟩
  refine tot_step (fun k => by rw [aOr]) ?_
  refine and_tot (cat d f hf hm) fun v p h => ?_
  have b := catb hf h
  exact ors d _ p b.2 (by omega)
theorem tot (m : Nat) : Tot l s m := by
  induction m using Nat.strongRecOn with
  | _ m ih => exact tot_all l s m ih
/-- Any text is read to an end. -/
theorem or_tot : ∃ n r, aOr l s n 0 (nx s 0) = some r := by
  obtain ⟨r, hr⟩ := (tot l s s.length).or 0 (nx s 0) (nx_le s 0 (by omega)) (by omega)
  obtain ⟨n, hn⟩ := ev_some hr
  exact ⟨n, r, hn⟩
end
end Go.Proofs.YtodbnnfiadcbaaaL
namespace Go.Proofs.YtodbnnfiadcbaaaL
open Go.RowKit Go.Proofs.Ytodbnnfiadcbaaa.P Go.Proofs.YtodbnnfiadcbaaaW.PrintWords Go.Proofs.YtodbnnfiadcbaaaW.PrintLast Go.Proofs.YtodbnnfiadcbaaaW.PrintMore
set_option linter.unusedSimpArgs false
set_option linter.unusedVariables false
set_option linter.unusedSectionVars false
theorem wrap_sub (x P : Nat) (h : P ≤ x) (hx : x ≤ 100000) : wrap64 ((x : Int) - (P : Int)) = ((x - P : Nat) : Int) := by unfold wrap64; omega
theorem wrap_sub1 (x P : Nat) (h : P ≤ x) (hx : x ≤ 100000) : wrap64 (wrap64 ((x : Int) + 1) - (P : Int)) = ((x + 1 - P : Nat) : Int) := by unfold wrap64; omega
theorem le_big {a b : Nat} (h : a ≤ b) (hb : b ≤ 2000) : a ≤ 100000 := Nat.le_trans h (Nat.le_trans hb (by decide))
section
variable (l : List S56) (s : ByteArray) (hs : s.size ≤ 2000)
abbrev RS := ByteArray × Int × Int × Int × Int
def rst (s : ByteArray) (q : Nat) (e p d : Int) : RS := (s, (q : Int), e, p, d)
include hs
theorem blanks_l0 (e p d : Int) : ∀ (m q : Nat), q + m = s.size → Ev (fun k => canopyref5_reader_blanks.l0 k l s (q : Int) e p d) (rst s (nx (L s) q) e p d) := by
  intro m
  induction m with
  | zero =>
    intro q hq
    have hn : nx (L s) q = q := nx_same (by rw [List.drop_eq_nil_of_le (by rw [L_len]; omega)]; simp)
    rw [hn]
    refine Ev.step (fun k => rfl) ?_
    exact Ev.congr (f := fun _ => some (rst s q e p d)) (fun k => by rw [canopyref5_reader_blanks.l0, if_neg (by omega)]; rfl) (Ev.now _)
  | succ m ih =>
    intro q hq
    have hlt : q < s.size := by omega
    have hl : q < (L s).length := by rw [L_len]; exact hlt
    have hb := bt_L s q hlt
    refine Ev.step (fun k => rfl) ?_
    by_cases h : (L s)[q] = 32
    · have hn : nx (L s) q = nx (L s) (q + 1) := by
        unfold nx
        rw [List.drop_eq_getElem_cons hl, blk, if_pos h]
        omega
      rw [hn]
      refine Ev.congr (fun k => by rw [canopyref5_reader_blanks.l0, if_pos (by omega), if_pos (by omega), if_pos (by rw [hb, h]; rfl), wrap_suc q s.size hlt (Nat.le_trans hs (by decide))]) ?_
      exact ih (q + 1) (by omega)
    · have hn : nx (L s) q = q := nx_same (by rw [List.drop_eq_getElem_cons hl, List.head?_cons]; exact fun e => h (Option.some.inj e))
      rw [hn]
      exact Ev.congr (f := fun _ => some (rst s q e p d)) (fun k => by rw [canopyref5_reader_blanks.l0, if_pos (by omega), if_pos (by omega), if_neg (by rw [hb]; intro h2; exact h (UInt8.toNat_inj.1 (by simpa using (by omega : ((L s)[q]).toNat = 32))))]; rfl) (Ev.now _)
theorem row_l0 (a : Nat) (q e p d : Int) : ∀ (m i : Nat), a ≤ i → i + m = s.size → Ev (fun k => canopyref5_reader_row.l0 k (i : Int) (a : Int) l s q e p d) (s.extract a (i + lets ((L s).drop i)), s, q, e, p, d) := by
  intro m
  induction m with
  | zero =>
    intro i ha hi
    refine Ev.step (fun k => rfl) ?_
    refine Ev.congr (f := fun _ => some (s.extract a (i + lets ((L s).drop i)), s, q, e, p, d)) (fun k => ?_) (Ev.now _)
    rw [canopyref5_reader_row.l0, if_neg (by omega), if_pos (by omega), if_pos (by omega), if_pos (by omega), List.drop_eq_nil_of_le (by rw [L_len]; omega)]
    simp [lets]
  | succ m ih =>
    intro i ha hi
    have hlt : i < s.size := by omega
    have hl : i < (L s).length := by rw [L_len]; exact hlt
    have hb := bt_L s i hlt
    refine Ev.step (fun k => rfl) ?_
    rw [List.drop_eq_getElem_cons hl, lets]
    have stop : ∀ k : Nat, (if 0 ≤ (a : Int) then (if (a : Int) ≤ (i : Int) then (if (i : Int) ≤ (s.size : Int) then (some (s.extract (a : Int).toNat (i : Int).toNat, s, q, e, p, d)) else (none)) else (none)) else (none)) = some (s.extract a (i + 0), s, q, e, p, d) := fun k => by
      rw [if_pos (by omega), if_pos (by omega), if_pos (by omega), Int.toNat_natCast, Int.toNat_natCast, Nat.add_zero]
    by_cases h1 : 97 ≤ ((L s)[i]).toNat
    · by_cases h2 : ((L s)[i]).toNat ≤ 122
      · refine Ev.congr (fun k => by rw [canopyref5_reader_row.l0, if_pos (by omega), if_pos (by omega), hb, if_pos (by omega), if_pos (by omega), wrap_suc i s.size hlt (Nat.le_trans hs (by decide))]) ?_
        rw [if_pos ⟨h1, h2⟩]
        have := ih (i + 1) (by omega) (by omega)
        rwa [show i + 1 + lets ((L s).drop (i + 1)) = i + (lets ((L s).drop (i + 1)) + 1) by omega] at this
      · rw [if_neg (fun h => h2 h.2)]
        exact Ev.congr (f := fun _ => some (s.extract a (i + 0), s, q, e, p, d)) (fun k => by rw [canopyref5_reader_row.l0, if_pos (by omega), if_pos (by omega), hb, if_pos (by omega), if_neg (by omega), stop k]) (Ev.now _)
    · rw [if_neg (fun h => h1 h.1)]
      exact Ev.congr (f := fun _ => some (s.extract a (i + 0), s, q, e, p, d)) (fun k => by rw [canopyref5_reader_row.l0, if_pos (by omega), if_pos (by omega), hb, if_neg (by omega), stop k]) (Ev.now _)
theorem row_ev (a : Nat) (ha : a ≤ s.size) (q e p d : Int) : Ev (fun k => canopyref5_reader_row.f k l s q e p d (a : Int)) (B (((L s).drop a).take (lets ((L s).drop a))), s, q, e, p, d) := by
  have := row_l0 l s hs a q e p d (s.size - a) a (Nat.le_refl _) (by omega)
  have e1 : s.extract a (a + lets ((L s).drop a)) = B (((L s).drop a).take (lets ((L s).drop a))) := L_inj (by rw [L_extract, L_B, Nat.add_sub_cancel_left])
  rw [e1] at this
  exact this
omit hs in
theorem take_letters : ∀ t : List UInt8, ∀ c ∈ t.take (lets t), letB c = true
  | [], c, h => by simp at h
  | x :: t, c, h => by
    rw [lets] at h
    by_cases hx : 97 ≤ x.toNat ∧ x.toNat ≤ 122
    · rw [if_pos hx, List.take_succ_cons] at h
      rcases List.mem_cons.mp h with rfl | h
      · simp [letB, hx]
      · exact take_letters t c h
    · rw [if_neg hx] at h; simp at h
omit hs in
theorem Letters_l0 (nm : List UInt8) (hn : nm.length ≤ 100000) (hl : ∀ c ∈ nm, letB c = true) : ∀ (m i : Nat), i + m = nm.length → Ev (fun k => canopyref1_Letters.l0 k (B nm) (i : Int)) (decide (1 ≤ nm.length) && decide (nm.length ≤ 8)) := by
  intro m
  induction m with
  | zero =>
    intro i hi
    refine Ev.step (fun k => rfl) ?_
    refine Ev.congr (f := fun _ => some (decide (1 ≤ nm.length) && decide (nm.length ≤ 8))) (fun k => ?_) (Ev.now _)
    rw [canopyref1_Letters.l0, B_size, if_neg (by omega)]
    by_cases h : 1 ≤ nm.length
    · rw [if_pos (by omega), decide_eq_true h, Bool.true_and]
      congr 1
      exact decide_eq_decide.mpr (by omega)
    · rw [if_neg (by omega), decide_eq_false h, Bool.false_and]
  | succ m ih =>
    intro i hi
    have hlt : i < (B nm).size := by rw [B_size]; omega
    have hb := bt_L (B nm) i hlt
    have hm2 : ∀ x, x ∈ L (B nm) → x ∈ nm := fun x hx => by rwa [L_B] at hx
    have hc := hl ((L (B nm))[i]'(by rw [L_len]; exact hlt)) (hm2 _ (List.getElem_mem _))
    simp only [letB, Bool.and_eq_true, decide_eq_true_eq] at hc
    refine Ev.step (fun k => rfl) ?_
    refine Ev.congr (fun k => by rw [canopyref1_Letters.l0, if_pos (by omega), if_pos (by omega), hb, if_neg (by omega), if_neg (by omega), wrap_suc i nm.length (by omega) (Nat.le_trans hn (by decide))]) ?_
    exact ih (i + 1) (by omega)
omit hs in
theorem Letters_ev (t : List UInt8) (ht : t.length ≤ 100000) : Ev (fun k => canopyref1_Letters.f k (B (t.take (lets t)))) (okN t) := by
  have hle := lets_le t
  have e : (t.take (lets t)).length = lets t := by rw [List.length_take]; omega
  have := Letters_l0 (t.take (lets t)) (by rw [e]; omega) (take_letters t) _ 0 (Nat.zero_add _)
  rw [e] at this
  exact this
def none63 (s : ByteArray) (q e p d : Int) : Int × ByteArray × Int × Int × RS := (63, ⟨#[]⟩, 0, 1, s, q, e, p, d)
/-- What stands from a name on. -/
def j3T (s : ByteArray) (u : List UInt8) (x6 : Int) (a P : Nat) (e p d : Int) : Int × ByteArray × Int × Int × RS :=
  if okN u then (if 97 ≤ x6 ∧ x6 ≤ 122 then (97, B (u.take (lets u)), 0, ((a + lets u - P : Nat) : Int), s, (P : Int), e, p, d)
    else if endsBy u 62 then (x6, B (u.take (lets u)), 62, ((a + lets u + 1 - P : Nat) : Int), s, (P : Int), e, p, d)
    else if x6 = 60 ∧ endsBy u 91 = true then (x6, B (u.take (lets u)), 91, ((a + lets u + 1 - P : Nat) : Int), s, (P : Int), e, p, d)
    else none63 s P e p d)
  else none63 s P e p d
omit hs in
theorem j3T_62 {u : List UInt8} {x6 e p d : Int} {a P : Nat} (hx : ¬ (97 ≤ x6 ∧ x6 ≤ 122)) (hn : endsBy u 62 = true) : j3T s u x6 a P e p d = (x6, B (u.take (lets u)), 62, ((a + lets u + 1 - P : Nat) : Int), s, (P : Int), e, p, d) := by
  have hk : okN u = true := by unfold endsBy at hn; rw [Bool.and_eq_true] at hn; exact hn.1
  unfold j3T
  rw [if_pos hk, if_neg hx, if_pos hn]
omit hs in
theorem j3T_91 {u : List UInt8} {e p d : Int} {a P : Nat} (hn : ¬ endsBy u 62 = true) (hm : endsBy u 91 = true) : j3T s u 60 a P e p d = (60, B (u.take (lets u)), 91, ((a + lets u + 1 - P : Nat) : Int), s, (P : Int), e, p, d) := by
  have hk : okN u = true := by unfold endsBy at hm; rw [Bool.and_eq_true] at hm; exact hm.1
  unfold j3T
  rw [if_pos hk, if_neg (by decide), if_neg hn, if_pos ⟨rfl, hm⟩]
omit hs in
theorem j3T_no {u : List UInt8} {x6 e p d : Int} {a P : Nat} (hx : ¬ (97 ≤ x6 ∧ x6 ≤ 122)) (hn : ¬ endsBy u 62 = true) (hm : ¬ (x6 = 60 ∧ endsBy u 91 = true)) : j3T s u x6 a P e p d = none63 s P e p d := by
  unfold j3T
  by_cases hk : okN u = true
  · rw [if_pos hk, if_neg hx, if_neg hn, if_neg hm]
  · rw [if_neg hk]
theorem j3_ev (x6 : Int) (a P : Nat) (ha : a ≤ s.size) (hP : P ≤ a) (e p d : Int) : Ev (fun k => canopyref5_reader_sign.j3 k x6 (a : Int) l s (P : Int) e p d) (j3T s ((L s).drop a) x6 a P e p d) := by
  have hle := lets_le ((L s).drop a)
  rw [List.length_drop, L_len] at hle
  refine Ev.step (fun k => rfl) ?_
  refine Ev.congr (fun k => by rw [canopyref5_reader_sign.j3]) ?_
  refine Ev.bind (row_ev l s hs a ha _ _ _ _) ?_
  refine Ev.bind (Letters_ev _ (by rw [List.length_drop, L_len]; omega)) ?_
  have hsz : (B (((L s).drop a).take (lets ((L s).drop a)))).size = lets ((L s).drop a) := by rw [B_size, List.length_take, List.length_drop, L_len]; omega
  have hal : a + lets ((L s).drop a) ≤ s.size := by omega
  have hPa : P ≤ a + lets ((L s).drop a) := by omega
  have w1 : wrap64 ((a : Int) + ((lets ((L s).drop a) : Nat) : Int)) = ((a + lets ((L s).drop a) : Nat) : Int) := wrap_add _ _ _ rfl (Nat.le_trans (le_big hal hs) (by decide))
  unfold j3T
  cases hk : okN ((L s).drop a) with
  | false =>
    rw [if_neg (by decide)]
    exact Ev.congr (f := fun _ => some (none63 s P e p d)) (fun k => by rw [if_neg (by decide)]; rfl) (Ev.now _)
  | true =>
    rw [if_pos rfl]
    refine Ev.congr (fun k => by rw [if_pos rfl, hsz, w1]) ?_
    have j4t : ∀ nm : ByteArray, Ev (fun k => canopyref5_reader_sign.j4 k x6 ((a + lets ((L s).drop a) : Nat) : Int) nm true l s (P : Int) e p d) (97, nm, 0, ((a + lets ((L s).drop a) - P : Nat) : Int), s, (P : Int), e, p, d) := fun nm => by
      refine Ev.step (fun k => rfl) ?_
      refine Ev.congr (f := fun _ => some (97, nm, 0, ((a + lets ((L s).drop a) - P : Nat) : Int), s, (P : Int), e, p, d)) (fun k => ?_) (Ev.now _)
      rw [canopyref5_reader_sign.j4, if_pos rfl, wrap_sub _ _ hPa (le_big hal hs)]
    have j4f : ∀ nm : ByteArray, Ev (fun k => canopyref5_reader_sign.j4 k x6 ((a + lets ((L s).drop a) : Nat) : Int) nm false l s (P : Int) e p d) (if endsBy ((L s).drop a) 62 then (x6, nm, 62, ((a + lets ((L s).drop a) + 1 - P : Nat) : Int), s, (P : Int), e, p, d) else if x6 = 60 ∧ endsBy ((L s).drop a) 91 = true then (x6, nm, 91, ((a + lets ((L s).drop a) + 1 - P : Nat) : Int), s, (P : Int), e, p, d) else none63 s P e p d) := fun nm => by
      refine Ev.step (fun k => rfl) ?_
      by_cases hz : a + lets ((L s).drop a) < s.size
      · have hq : ((L s).drop a)[lets ((L s).drop a)]? = some ((L s)[a + lets ((L s).drop a)]'(by rw [L_len]; exact hz)) := by
          rw [List.getElem?_drop, List.getElem?_eq_getElem]
        have hb := bt_L s (a + lets ((L s).drop a)) hz
        have en : ∀ c : UInt8, endsBy ((L s).drop a) c = decide ((L s)[a + lets ((L s).drop a)]'(by rw [L_len]; exact hz) = c) := fun c => by
          unfold endsBy
          rw [hk, hq, Bool.true_and]
          simp
        have ww : wrap64 (wrap64 (((a + lets ((L s).drop a) : Nat) : Int) + 1) - (P : Int)) = ((a + lets ((L s).drop a) + 1 - P : Nat) : Int) := wrap_sub1 _ _ hPa (le_big (Nat.le_of_lt hz) hs)
        rw [en, en]
        generalize (L s)[a + lets ((L s).drop a)]'(by rw [L_len]; exact hz) = c at hb ⊢
        have hc : ∀ n : UInt8, (bt s ((a + lets ((L s).drop a) : Nat) : Int) = (n.toNat : Int)) ↔ c = n := fun n => by
          rw [hb]
          constructor
          · intro h; exact UInt8.toNat_inj.1 (by omega)
          · intro h; rw [h]
        have hc62 : (bt s ((a + lets ((L s).drop a) : Nat) : Int) = 62) ↔ c = 62 := hc 62
        have hc91 : (bt s ((a + lets ((L s).drop a) : Nat) : Int) = 91) ↔ c = 91 := hc 91
        obtain ⟨T, hT⟩ : ∃ T, T = (if decide (c = 62) = true then (x6, nm, (62 : Int), ((a + lets ((L s).drop a) + 1 - P : Nat) : Int), s, (P : Int), e, p, d) else if x6 = 60 ∧ decide (c = 91) = true then (x6, nm, (91 : Int), ((a + lets ((L s).drop a) + 1 - P : Nat) : Int), s, (P : Int), e, p, d) else none63 s P e p d) := ⟨_, rfl⟩
        rw [← hT]
        refine Ev.congr (f := fun _ => some T) (fun k => ?_) (Ev.now _)
        rw [canopyref5_reader_sign.j4, if_neg (by decide), if_pos (by omega), if_pos (by omega), ww, hT]
        clear hT
        by_cases c62 : c = 62
        · have q9 := hc62.mpr c62
          rw [if_pos q9, q9, if_pos (decide_eq_true c62)]
        · have q9 : ¬ bt s ((a + lets ((L s).drop a) : Nat) : Int) = 62 := fun h => c62 (hc62.mp h)
          rw [if_neg q9, if_neg (fun h => c62 (of_decide_eq_true h))]
          by_cases x60 : x6 = 60
          · rw [if_pos x60]
            by_cases c91 : c = 91
            · have q8 := hc91.mpr c91
              rw [if_pos q8, q8, if_pos (⟨x60, decide_eq_true c91⟩ : x6 = 60 ∧ decide (c = 91) = true)]
            · have q8 : ¬ bt s ((a + lets ((L s).drop a) : Nat) : Int) = 91 := fun h => c91 (hc91.mp h)
              rw [if_neg q8, if_neg (fun h : x6 = 60 ∧ decide (c = 91) = true => c91 (of_decide_eq_true h.2))]
              rfl
          · rw [if_neg x60, if_neg (fun h : x6 = 60 ∧ decide (c = 91) = true => x60 h.1)]
            rfl
      · have hq : ((L s).drop a)[lets ((L s).drop a)]? = none := List.getElem?_eq_none (by rw [List.length_drop, L_len]; omega)
        have en : ∀ c : UInt8, endsBy ((L s).drop a) c = false := fun c => by
          unfold endsBy
          rw [hq]
          simp
        rw [en, en, if_neg (by decide), if_neg (by simp)]
        exact Ev.congr (f := fun _ => some (none63 s P e p d)) (fun k => by rw [canopyref5_reader_sign.j4, if_neg (by decide), if_neg (by omega)]; rfl) (Ev.now _)
    by_cases h97 : 97 ≤ x6
    · by_cases h122 : x6 ≤ 122
      · rw [if_pos ⟨h97, h122⟩]
        exact Ev.congr (fun k => by rw [if_pos h97, decide_eq_true h122]) (j4t _)
      · rw [if_neg (fun h => h122 h.2)]
        exact Ev.congr (fun k => by rw [if_pos h97, decide_eq_false h122]) (j4f _)
    · rw [if_neg (fun h => h97 h.1)]
      exact Ev.congr (fun k => by rw [if_neg h97]) (j4f _)
/-! the whole sign -/
def Tk.rc : Tk → Int
  | .eof => 0
  | .bad => 63
  | .one c => (c.toNat : Int)
  | .sym _ k => if k = 3 then 97 else if k = 2 then 47 else 60
  | .nest _ => 60
  | .over _ => 93
def Tk.re : Tk → Int
  | .sym _ k => if k = 3 then 0 else 62
  | .nest _ => 91
  | .over _ => 62
  | _ => 0
def rl (t : Tk × Nat) : Int := if t.1.K = 2 then 1 else (t.2 : Int)
def sgT (s : ByteArray) (f : Nat) (t : Tk × Nat) (e p d : Int) : Int × ByteArray × Int × Int × RS := (t.1.rc, t.1.N, t.1.re, rl t, rst s f e p d)
def sg (s : ByteArray) (f : Nat) (e p d : Int) : Int × ByteArray × Int × Int × RS := sgT s f (tokAt ((L s).drop f)) e p d
theorem rsign_ev (q : Nat) (hq : q ≤ s.size) (e p d : Int) : Ev (fun k => canopyref5_reader_sign.f k l s (q : Int) e p d) (sg s (nx (L s) q) e p d) := by
  have hf : nx (L s) q ≤ s.size := by have := nx_le (L s) q (by rw [L_len]; exact hq); rwa [L_len] at this
  unfold canopyref5_reader_sign.f
  refine Ev.bind (blanks_l0 l s hs e p d (s.size - q) q (by omega)) ?_
  generalize nx (L s) q = f at hf ⊢
  show Ev (fun k => if (f : Int) ≥ (s.size : Int) then _ else _) _
  unfold sg
  have hlen : ((L s).drop f).length = s.size - f := by rw [List.length_drop, L_len]
  cases hu : (L s).drop f with
  | nil =>
    rw [hu] at hlen
    simp only [List.length_nil] at hlen
    exact Ev.congr (f := fun _ => some (sgT s f (tokAt []) e p d)) (fun k => by rw [if_pos (by omega)]; rfl) (Ev.now _)
  | cons c t =>
    rw [hu, List.length_cons] at hlen
    have hlt : f < s.size := by omega
    have hb : bt s (f : Int) = (c.toNat : Int) := by
      rw [bt_L s f hlt]
      congr 2
      have h1 := List.drop_eq_getElem_cons (l := L s) (i := f) (by rw [L_len]; exact hlt)
      rw [hu] at h1
      exact (List.cons.inj h1).1.symm
    have hd1 : (L s).drop (f + 1) = t := by rw [← List.drop_drop, hu]; rfl
    have w1 : wrap64 ((f : Int) + 1) = ((f + 1 : Nat) : Int) := wrap_suc f s.size hlt (Nat.le_trans hs (by decide))
    have w2 : wrap64 (((f + 1 : Nat) : Int) + 1) = ((f + 2 : Nat) : Int) := wrap_add (f + 1) 1 _ rfl (Nat.le_trans (Nat.add_le_add_right (Nat.le_trans hlt hs) 1) (by decide))
    have isC : ∀ n : UInt8, ((c.toNat : Int) = (n.toNat : Int)) ↔ c = n := fun n => by
      constructor
      · intro h; exact UInt8.toNat_inj.1 (by omega)
      · intro h; rw [h]
    have start : ∀ k, (if (f : Int) ≥ (s.size : Int) then (some (0, (⟨#[]⟩ : ByteArray), 0, 0, s, (f : Int), e, p, d)) else (if 0 ≤ (f : Int) then (if (f : Int) < (s.size : Int) then (if (bt s f) = 48 then (canopyref5_reader_sign.j0 k (bt s f) (wrap64 ((f : Int) + 1)) true l s f e p d) else (if (bt s f) = 49 then (canopyref5_reader_sign.j0 k (bt s f) (wrap64 ((f : Int) + 1)) true l s f e p d) else (if (bt s f) = 40 then (canopyref5_reader_sign.j0 k (bt s f) (wrap64 ((f : Int) + 1)) true l s f e p d) else (if (bt s f) = 41 then (canopyref5_reader_sign.j0 k (bt s f) (wrap64 ((f : Int) + 1)) true l s f e p d) else (if (bt s f) = 124 then (canopyref5_reader_sign.j0 k (bt s f) (wrap64 ((f : Int) + 1)) true l s f e p d) else (canopyref5_reader_sign.j0 k (bt s f) (wrap64 ((f : Int) + 1)) ((bt s f) == 42) l s f e p d)))))) else (none)) else (none))) = canopyref5_reader_sign.j0 k (c.toNat : Int) ((f + 1 : Nat) : Int) (isSign c) l s f e p d := fun k => by
      rw [if_neg (by omega), if_pos (by omega), if_pos (by omega), hb, w1]
      have i48 : (c.toNat : Int) = 48 ↔ c = 48 := isC 48
      have i49 : (c.toNat : Int) = 49 ↔ c = 49 := isC 49
      have i40 : (c.toNat : Int) = 40 ↔ c = 40 := isC 40
      have i41 : (c.toNat : Int) = 41 ↔ c = 41 := isC 41
      have i124 : (c.toNat : Int) = 124 ↔ c = 124 := isC 124
      have i42 : (c.toNat : Int) = 42 ↔ c = 42 := isC 42
      by_cases h48 : c = 48
      · rw [if_pos (i48.mpr h48), h48]; rfl
      rw [if_neg (fun h => h48 (i48.mp h))]
      by_cases h49 : c = 49
      · rw [if_pos (i49.mpr h49), h49]; rfl
      rw [if_neg (fun h => h49 (i49.mp h))]
      by_cases h40 : c = 40
      · rw [if_pos (i40.mpr h40), h40]; rfl
      rw [if_neg (fun h => h40 (i40.mp h))]
      by_cases h41 : c = 41
      · rw [if_pos (i41.mpr h41), h41]; rfl
      rw [if_neg (fun h => h41 (i41.mp h))]
      by_cases h124 : c = 124
      · rw [if_pos (i124.mpr h124), h124]; rfl
      rw [if_neg (fun h => h124 (i124.mp h))]
      have : ((c.toNat : Int) == 42) = isSign c := by
        unfold isSign
        rw [beq_eq_false_iff_ne.mpr h48, beq_eq_false_iff_ne.mpr h49, beq_eq_false_iff_ne.mpr h40, beq_eq_false_iff_ne.mpr h41, beq_eq_false_iff_ne.mpr h124]
        simp only [Bool.false_or]
        rw [Bool.eq_iff_iff, beq_iff_eq, beq_iff_eq]
        exact i42
      rw [this]
    refine Ev.congr start ?_
    refine Ev.step (fun k => rfl) ?_
    rw [tokAt]
    by_cases hsg : isSign c = true
    · rw [if_pos hsg]
      exact Ev.congr (f := fun _ => some (sgT s f (.one c, 1) e p d)) (fun k => by rw [canopyref5_reader_sign.j0, if_pos hsg]; rfl) (Ev.now _)
    rw [if_neg hsg]
    have j1 : ∀ k, canopyref5_reader_sign.j0 (k + 1) (c.toNat : Int) ((f + 1 : Nat) : Int) (isSign c) l s f e p d = canopyref5_reader_sign.j1 k (c.toNat : Int) ((f + 1 : Nat) : Int) (letB c) l s f e p d := fun k => by
      rw [canopyref5_reader_sign.j0, if_neg hsg]
      unfold letB
      by_cases h97 : 97 ≤ c.toNat
      · rw [if_pos (by omega), decide_eq_true h97, Bool.true_and]
        congr 1
        exact decide_eq_decide.mpr (by omega)
      · rw [if_neg (by omega), decide_eq_false h97, Bool.false_and]
    refine Ev.congr j1 ?_
    clear j1 start
    refine Ev.step (fun k => rfl) ?_
    have j3 := j3_ev l s hs
    by_cases hlet : letB c = true
    · have hn60 : ¬ c = 60 := let_not c _ hlet (by decide)
      have hn93 : ¬ c = 93 := let_not c _ hlet (by decide)
      rw [if_neg hn60, if_neg hn93]
      refine Ev.congr (fun k => by rw [canopyref5_reader_sign.j1, if_pos hlet]) ?_
      have := j3 (c.toNat : Int) f f hf (Nat.le_refl _) e p d
      rw [hu] at this
      unfold j3T at this
      have hcr : 97 ≤ (c.toNat : Int) ∧ (c.toNat : Int) ≤ 122 := by
        simp only [letB, Bool.and_eq_true, decide_eq_true_eq] at hlet
        omega
      by_cases hk : okN (c :: t) = true
      · rw [if_pos hk, if_pos hcr, Nat.add_sub_cancel_left] at this
        rw [if_pos hk]
        exact this
      · rw [if_neg hk] at this ⊢
        exact this
    · refine Ev.congr (fun k => by rw [canopyref5_reader_sign.j1, if_neg hlet]) ?_
      by_cases h60 : c = 60
      · subst h60
        rw [if_pos rfl]
        unfold tokLt
        by_cases ht : t.head? = some 47
        · obtain ⟨t2, rfl⟩ : ∃ t2, t = 47 :: t2 := by
            cases t with
            | nil => simp at ht
            | cons a t2 => simp at ht; exact ⟨t2, by rw [ht]⟩
          have hlt2 : f + 1 < s.size := by simp only [List.length_cons] at hlen; omega
          have hb2 : bt s ((f + 1 : Nat) : Int) = 47 := by
            rw [bt_L s (f + 1) hlt2]
            have h1 := List.drop_eq_getElem_cons (l := L s) (i := f + 1) (by rw [L_len]; exact hlt2)
            rw [hd1] at h1
            rw [← (List.cons.inj h1).1]
            rfl
          rw [if_pos ht, List.tail_cons]
          refine Ev.congr (fun k => by rw [if_pos (show (((60 : UInt8).toNat : Nat) : Int) = 60 from rfl), if_pos (by omega), if_pos (by omega), hb2]) ?_
          refine Ev.step (fun k => rfl) ?_
          refine Ev.congr (fun k => by rw [canopyref5_reader_sign.j2, if_pos (show ((47 : Int) == 47) = true from rfl), w2]) ?_
          have := j3 47 (f + 2) f (by omega) (by omega) e p d
          rw [show (L s).drop (f + 2) = t2 by rw [show f + 2 = f + 1 + 1 from rfl, ← List.drop_drop, hd1]; rfl] at this
          by_cases hn : endsBy t2 62 = true
          · rw [j3T_62 s (by decide) hn, show f + 2 + lets t2 + 1 - f = lets t2 + 3 by omega] at this
            rw [if_pos hn]
            exact this
          · rw [j3T_no s (by decide) hn (fun h => by have := h.1; revert this; decide)] at this
            rw [if_neg hn]
            exact this
        · rw [if_neg ht]
          have hj2 : ∀ k, (if (((60 : UInt8).toNat : Nat) : Int) = 60 then (if ((f + 1 : Nat) : Int) < (s.size : Int) then (if 0 ≤ ((f + 1 : Nat) : Int) then (canopyref5_reader_sign.j2 k (((60 : UInt8).toNat : Nat) : Int) ((f + 1 : Nat) : Int) ((bt s ((f + 1 : Nat) : Int)) == 47) l s f e p d) else (none)) else (canopyref5_reader_sign.j2 k (((60 : UInt8).toNat : Nat) : Int) ((f + 1 : Nat) : Int) false l s f e p d)) else (canopyref5_reader_sign.j2 k (((60 : UInt8).toNat : Nat) : Int) ((f + 1 : Nat) : Int) false l s f e p d)) = canopyref5_reader_sign.j2 k 60 ((f + 1 : Nat) : Int) false l s f e p d := fun k => by
            rw [if_pos (show (((60 : UInt8).toNat : Nat) : Int) = 60 from rfl)]
            by_cases hlt2 : f + 1 < s.size
            · have hb2 : (bt s ((f + 1 : Nat) : Int) == 47) = false := by
                rw [beq_eq_false_iff_ne, bt_L s (f + 1) hlt2]
                intro h
                apply ht
                have h1 := List.drop_eq_getElem_cons (l := L s) (i := f + 1) (by rw [L_len]; exact hlt2)
                rw [hd1] at h1
                rw [h1, List.head?_cons]
                congr 1
                exact UInt8.toNat_inj.1 (by simpa using (by omega : ((L s)[f + 1]'(by rw [L_len]; exact hlt2)).toNat = 47))
              rw [if_pos (by omega), if_pos (by omega), hb2]
              rfl
            · rw [if_neg (by omega)]
              rfl
          refine Ev.congr hj2 ?_
          refine Ev.step (fun k => rfl) ?_
          refine Ev.congr (fun k => by rw [canopyref5_reader_sign.j2, if_neg (by decide), if_pos rfl]) ?_
          have := j3 60 (f + 1) f (by omega) (by omega) e p d
          rw [hd1] at this
          by_cases hn : endsBy t 62 = true
          · rw [j3T_62 s (by decide) hn, show f + 1 + lets t + 1 - f = lets t + 2 by omega] at this
            rw [if_pos hn]
            exact this
          · rw [if_neg hn]
            by_cases hm : endsBy t 91 = true
            · rw [j3T_91 s hn hm, show f + 1 + lets t + 1 - f = lets t + 2 by omega] at this
              rw [if_pos hm]
              exact this
            · rw [if_neg hm]
              rw [j3T_no s (by decide) hn (fun h => hm h.2)] at this
              exact this
      · rw [if_neg h60]
        have n60 : ¬ (c.toNat : Int) = 60 := fun h => h60 ((isC 60).mp h)
        refine Ev.congr (fun k => by rw [if_neg n60]) ?_
        refine Ev.step (fun k => rfl) ?_
        by_cases h93 : c = 93
        · subst h93
          rw [if_pos rfl]
          refine Ev.congr (fun k => by rw [canopyref5_reader_sign.j2, if_neg (by decide), if_neg n60, if_pos (show (((93 : UInt8).toNat : Nat) : Int) = 93 from rfl)]) ?_
          have := j3 93 (f + 1) f (by omega) (by omega) e p d
          rw [hd1] at this
          by_cases hn : endsBy t 62 = true
          · rw [j3T_62 s (by decide) hn, show f + 1 + lets t + 1 - f = lets t + 2 by omega] at this
            rw [if_pos hn]
            exact this
          · rw [j3T_no s (by decide) hn (fun h => by have := h.1; revert this; decide)] at this
            rw [if_neg hn]
            exact this
        · rw [if_neg h93]
          have n93 : ¬ (c.toNat : Int) = 93 := fun h => h93 ((isC 93).mp h)
          have hk : ¬ okN (c :: t) = true := by
            unfold okN
            rw [lets, if_neg (fun h => hlet (by simp [letB, h]))]
            decide
          rw [if_neg hk]
          exact Ev.congr (f := fun _ => some (none63 s f e p d)) (fun k => by rw [canopyref5_reader_sign.j2, if_neg (by decide), if_neg n60, if_neg n93]; rfl) (Ev.now _)
end
end Go.Proofs.YtodbnnfiadcbaaaL
namespace Go.Proofs.YtodbnnfiadcbaaaL
open Go.RowKit Go.Proofs.Ytodbnnfiadcbaaa.P Go.Proofs.YtodbnnfiadcbaaaW.PrintWords Go.Proofs.YtodbnnfiadcbaaaW.PrintLast Go.Proofs.YtodbnnfiadcbaaaW.PrintMore
set_option linter.unusedSimpArgs false
set_option linter.unusedVariables false
abbrev QR := Int × Int × Int × List S28 × RS
abbrev QS := Int × ByteArray × Int × Int × RS
def signW (k : Nat) (l : List S56) (σ : RS) : Option QS := canopyref5_reader_sign.f k l σ.1 σ.2.1 σ.2.2.1 σ.2.2.2.1 σ.2.2.2.2
def rfindW (k : Nat) (l : List S56) (σ : RS) (nm : ByteArray) (kd : Int) : Option (Int × RS) := canopyref5_reader_find.f k l σ.1 σ.2.1 σ.2.2.1 σ.2.2.2.1 σ.2.2.2.2 nm kd
def ratomW (k : Nat) (l : List S56) (σ : RS) : Option QR := canopyref5_reader_atom.f k l σ.1 σ.2.1 σ.2.2.1 σ.2.2.2.1 σ.2.2.2.2
def ratomJ (k : Nat) (c : Int) (nm : ByteArray) (n : Int) (b : Bool) (l : List S56) (σ : RS) : Option QR := canopyref5_reader_atom.j0 k c nm n b l σ.1 σ.2.1 σ.2.2.1 σ.2.2.2.1 σ.2.2.2.2
def rnestW (k : Nat) (l : List S56) (σ : RS) (nm : ByteArray) (n : Int) : Option QR := canopyref5_reader_nest.f k l σ.1 σ.2.1 σ.2.2.1 σ.2.2.2.1 σ.2.2.2.2 nm n
def rcatW (k : Nat) (l : List S56) (σ : RS) : Option QR := canopyref5_reader_cat.f k l σ.1 σ.2.1 σ.2.2.1 σ.2.2.2.1 σ.2.2.2.2
def rcat0 (k : Nat) (acc : List S28) (l : List S56) (σ : RS) : Option QR := canopyref5_reader_cat.l0 k acc l σ.1 σ.2.1 σ.2.2.1 σ.2.2.2.1 σ.2.2.2.2
def rcat1 (k : Nat) (acc : List S28) (l : List S56) (σ : RS) (x : S28) : Option QR := canopyref5_reader_cat.l1 k acc l σ.1 σ.2.1 σ.2.2.1 σ.2.2.2.1 σ.2.2.2.2 x.f0 x.f1 x.f2 x.f3
def rorW (k : Nat) (l : List S56) (σ : RS) : Option QR := canopyref5_reader_or.f k l σ.1 σ.2.1 σ.2.2.1 σ.2.2.2.1 σ.2.2.2.2
def ror0 (k : Nat) (acc : List S28) (l : List S56) (σ : RS) : Option QR := canopyref5_reader_or.l0 k acc l σ.1 σ.2.1 σ.2.2.1 σ.2.2.2.1 σ.2.2.2.2
def failS (σ : RS) (e p : Int) : RS := if σ.2.2.1 = 0 then (σ.1, σ.2.1, e, p, σ.2.2.2.2) else σ
def movS (σ : RS) (n i : Int) : RS := (σ.1, wrap64 (σ.2.1 + n), σ.2.2.1, σ.2.2.2.1, wrap64 (σ.2.2.2.2 + i))
def advS (σ : RS) (n : Int) : RS := (σ.1, wrap64 (σ.2.1 + n), σ.2.2.1, σ.2.2.2.1, σ.2.2.2.2)
def deepS (σ : RS) : RS := (σ.1, σ.2.1, σ.2.2.1, σ.2.2.2.1, wrap64 (σ.2.2.2.2 + 1))
def inS (σ : RS) : RS := if σ.2.2.2.2 > 40 then deepS (failS σ 3 σ.2.1) else deepS σ
def qres (x : S28) (σ : RS) : QR := (x.f0, x.f1, x.f2, x.f3, σ)
def qex (r : QR) : S28 := ⟨r.1, r.2.1, r.2.2.1, r.2.2.2.1⟩
def zex : S28 := ⟨0, 0, 0, []⟩
theorem qex_res (x : S28) (σ : RS) : qex (qres x σ) = x := by cases x; rfl
theorem fail_eq (l : List S56) (a : ByteArray) (b c d e er p : Int) : canopyref5_reader_fail.f l a b c d e er p = some (qres zex (failS (a, b, c, d, e) er p)) := by
  unfold canopyref5_reader_fail.f failS
  show _ = some (qres zex (if c = 0 then _ else _))
  split <;> rfl
theorem in_eq (l : List S56) (a : ByteArray) (b c d e : Int) : canopyref5_reader_in.f l a b c d e = some (inS (a, b, c, d, e)) := by
  unfold canopyref5_reader_in.f inS
  simp only [fail_eq, Option.bind_some]
  show _ = some (if e > 40 then _ else _)
  split <;> rfl
def fin (k : Int) (acc : List S28) (σ : RS) : Option QR := some (qres (severalT k acc) σ)
theorem fin_eq (k : Int) (xs : List S28) (a : ByteArray) (b c d e : Int) : (if (xs.length : Int) = 1 then (if 0 < (xs.length : Int) then (some ((rd_T28 xs 0).f0, (rd_T28 xs 0).f1, (rd_T28 xs 0).f2, (rd_T28 xs 0).f3, a, b, c, d, e)) else (none)) else (some (k, 0, 0, xs, a, b, c, d, e))) = fin k xs (a, b, c, d, e) := by
  unfold fin severalT
  cases xs with
  | nil => rfl
  | cons x t =>
    cases t with
    | nil => rfl
    | cons y ys => rw [if_neg (by simp only [List.length_cons]; omega)]; rfl
/-- What stands behind one of a row. -/
def rcatG (k : Nat) (acc : List S28) (l : List S56) (σ : RS) : Option QR := (signW k l σ).bind fun z => if z.1 = 0 then fin 5 acc z.2.2.2.2 else if z.1 = 41 then fin 5 acc z.2.2.2.2 else if z.1 = 93 then fin 5 acc z.2.2.2.2 else if z.1 = 124 then fin 5 acc z.2.2.2.2 else rcat0 k acc l z.2.2.2.2
section
variable (k : Nat) (l : List S56) (σ : RS)
theorem ratom_step : ratomW (k + 1) l σ = (signW k l σ).bind fun z => if z.1 = 48 then some (qres ⟨1, 0, 0, []⟩ (advS z.2.2.2.2 z.2.2.2.1))
    else if z.1 = 49 then some (qres ⟨2, 0, 0, []⟩ (advS z.2.2.2.2 z.2.2.2.1))
    else if z.1 = 97 then (rfindW k l z.2.2.2.2 z.2.1 3).bind fun y => some (qres ⟨3, y.1, 0, []⟩ (advS y.2 z.2.2.2.1))
    else if z.1 = 47 then (rfindW k l z.2.2.2.2 z.2.1 2).bind fun y => some (qres ⟨3, y.1, 0, []⟩ (advS y.2 z.2.2.2.1))
    else if z.1 = 60 then ratomJ k z.1 z.2.1 z.2.2.2.1 (z.2.2.1 == 62) l z.2.2.2.2 else ratomJ k z.1 z.2.1 z.2.2.2.1 false l z.2.2.2.2 := by
  unfold ratomW
  rw [canopyref5_reader_atom.f]
  rfl
theorem ratomJ_step (c : Int) (nm : ByteArray) (n : Int) (b : Bool) : ratomJ (k + 1) c nm n b l σ = if b = true then (rfindW k l σ nm 1).bind fun y => some (qres ⟨3, y.1, 0, []⟩ (advS y.2 n))
    else if c = 40 then (rorW k l (advS (inS σ) n)).bind fun r => (signW k l r.2.2.2.2).bind fun z => if z.1 = 41 then some (qres (qex r) (movS z.2.2.2.2 1 (-1))) else some (qres zex (failS z.2.2.2.2 1 z.2.2.2.2.2.1))
    else if c = 60 then (rnestW k l σ nm n).bind fun r => some r
    else some (qres zex (failS σ 1 σ.2.1)) := by
  unfold ratomJ
  rw [canopyref5_reader_atom.j0]
  simp only [in_eq, fail_eq, Option.bind_some]
  rfl
theorem rnest_step (nm : ByteArray) (n : Int) : rnestW (k + 1) l σ nm n = (rfindW k l σ nm 1).bind fun y => (rorW k l (advS (inS y.2) n)).bind fun r => (signW k l r.2.2.2.2).bind fun z => if z.1 = 93 then (rfindW k l z.2.2.2.2 z.2.1 2).bind fun u => some (qres ⟨4, y.1, u.1, [qex r]⟩ (movS u.2 z.2.2.2.1 (-1))) else some (qres zex (failS z.2.2.2.2 1 z.2.2.2.2.2.1)) := by
  unfold rnestW
  rw [canopyref5_reader_nest.f]
  simp only [in_eq, fail_eq, Option.bind_some]
  rfl
theorem rcat_step : rcatW (k + 1) l σ = rcat0 k [] l σ := by
  unfold rcatW
  rw [canopyref5_reader_cat.f]
  rfl
theorem rcat0_step (acc : List S28) : rcat0 (k + 1) acc l σ = if σ.2.2.1 = 0 then (ratomW k l σ).bind fun r => rcat1 k acc l r.2.2.2.2 (qex r) else fin 5 acc σ := by
  unfold rcat0
  rw [canopyref5_reader_cat.l0]
  simp only [fin_eq]
  rfl
theorem rcat1_step (acc : List S28) (x : S28) : rcat1 (k + 1) acc l σ x = if σ.2.2.1 = 0 then (signW k l σ).bind fun z => if z.1 = 42 then rcat1 k acc l (advS z.2.2.2.2 1) ⟨7, 0, 0, [x]⟩ else if acc.length < 2932031007402 then rcatG k (acc ++ [x]) l z.2.2.2.2 else none
    else if acc.length < 2932031007402 then rcatG k (acc ++ [x]) l σ else none := by
  cases x
  unfold rcat1
  rw [canopyref5_reader_cat.l1]
  simp only [fin_eq, Option.bind_some]
  rfl
theorem ror_step : rorW (k + 1) l σ = ror0 k [] l σ := by
  unfold rorW
  rw [canopyref5_reader_or.f]
  rfl
theorem ror0_step (acc : List S28) : ror0 (k + 1) acc l σ = if σ.2.2.1 = 0 then (rcatW k l σ).bind fun r => if acc.length < 2932031007402 then (signW k l r.2.2.2.2).bind fun z => if z.1 = 124 then (if z.2.2.2.2.2.2.1 = 0 then ror0 k (acc ++ [qex r]) l (advS z.2.2.2.2 1) else fin 6 (acc ++ [qex r]) z.2.2.2.2) else fin 6 (acc ++ [qex r]) z.2.2.2.2 else none
    else fin 6 acc σ := by
  unfold ror0
  rw [canopyref5_reader_or.l0]
  simp only [fin_eq, Option.bind_some]
  rfl
end
/-! symbols -/
theorem findT_nonneg : ∀ (l : List S56) (nm : List UInt8) (k : Int) (i : Nat) (j : Int), findT l nm k i = some j → 0 ≤ j
  | [], _, _, _, _, h => by simp [findT] at h
  | x :: xs, nm, k, i, j, h => by
    rw [findT] at h
    by_cases hx : x.f0.data.toList = nm ∧ x.f1 = k
    · rw [if_pos hx] at h
      have := Option.some.inj h
      omega
    · rw [if_neg hx] at h
      exact findT_nonneg xs nm k (i + 1) j h
theorem Find_l0 (l : List S56) (hl : l.length ≤ 1000) (nm : List UInt8) (kd : Int) : ∀ (m i : Nat), i + m = l.length → Ev (fun k => canopyref1_Find.l0 k l (i : Int) (B nm) kd) (match findT (l.drop i) nm kd i with | some j => j | none => -1) := by
  intro m
  induction m with
  | zero =>
    intro i hi
    rw [List.drop_eq_nil_of_le (by omega)]
    refine Ev.step (fun k => rfl) ?_
    exact Ev.congr (f := fun _ => some (-1)) (fun k => by rw [canopyref1_Find.l0, if_neg (by omega)]) (Ev.now _)
  | succ m ih =>
    intro i hi
    have hlt : i < l.length := by omega
    have hr : rd_T56 l (i : Int) = l[i] := rd56_get hlt
    rw [List.drop_eq_getElem_cons hlt, findT]
    refine Ev.step (fun k => rfl) ?_
    have hb : (((rd_T56 l (i : Int)).f0.toList == (B nm).toList && ((rd_T56 l (i : Int)).f1 == kd)) = true) ↔ (l[i].f0.data.toList = nm ∧ l[i].f1 = kd) := by
      rw [hr, toL, toL, L_B, Bool.and_eq_true, beq_iff_eq, beq_iff_eq]
      exact Iff.rfl
    by_cases h : l[i].f0.data.toList = nm ∧ l[i].f1 = kd
    · rw [if_pos h]
      exact Ev.congr (f := fun _ => some (i : Int)) (fun k => by rw [canopyref1_Find.l0, if_pos (by omega), if_pos (by omega), if_pos (hb.mpr h)]) (Ev.now _)
    · rw [if_neg h]
      refine Ev.congr (fun k => by rw [canopyref1_Find.l0, if_pos (by omega), if_pos (by omega), if_neg (fun q => h (hb.mp q)), wrap_suc i l.length hlt (Nat.le_trans hl (by decide))]) ?_
      exact ih (i + 1) (by omega)
theorem rfind_ev (l : List S56) (hl : l.length ≤ 1000) (σ : RS) (nm : List UInt8) (kd : Int) : Ev (fun k => rfindW k l σ (B nm) kd) (match findT l nm kd 0 with | some j => (j, σ) | none => (0, failS σ 6 σ.2.1)) := by
  have h := Find_l0 l hl nm kd l.length 0 (by omega)
  rw [List.drop_zero] at h
  unfold rfindW canopyref5_reader_find.f
  refine Ev.bind (show Ev (fun k => canopyref1_Find.f k l (B nm) kd) _ from h) ?_
  cases hq : findT l nm kd 0 with
  | some j =>
    have := findT_nonneg l nm kd 0 j hq
    exact Ev.congr (f := fun _ => some (j, σ)) (fun k => by rw [if_neg (show ¬ j < 0 by omega)]) (Ev.now _)
  | none =>
    refine Ev.congr (f := fun _ => some (0, failS σ 6 σ.2.1)) (fun k => ?_) (Ev.now _)
    rw [if_pos (show (-1 : Int) < 0 by decide), fail_eq, Option.bind_some]
    rfl
end Go.Proofs.YtodbnnfiadcbaaaL
namespace Go.Proofs.YtodbnnfiadcbaaaL
open Go.RowKit Go.Proofs.Ytodbnnfiadcbaaa.P Go.Proofs.YtodbnnfiadcbaaaW.PrintWords Go.Proofs.YtodbnnfiadcbaaaW.PrintLast Go.Proofs.YtodbnnfiadcbaaaW.PrintMore
set_option linter.unusedSimpArgs false
set_option linter.unusedVariables false
def Tk.stuck (t : Tk) : Bool := t.K == 2 || t.isOne 42
section
variable {l : List S56} {s : ByteArray}
theorem failS_st (q : Nat) (d e p : Int) : failS (rst s q 0 0 d) e p = rst s q e p d := rfl
theorem failS_no {q : Nat} {d e p e2 p2 : Int} (h : e ≠ 0) : failS (rst s q e p d) e2 p2 = rst s q e p d := by
  unfold failS
  exact if_neg h
theorem adv_st {q n : Nat} {e p d : Int} (h : q + n ≤ 100000) : advS (rst s q e p d) (n : Int) = rst s (q + n) e p d := by
  show (_, wrap64 ((q : Int) + (n : Int)), _, _, _) = _
  rw [wrap_add q n _ rfl (Nat.le_trans h (by decide))]
  rfl
theorem mov_st {q n d : Nat} {e p : Int} (h : q + n ≤ 100000) (hd : d ≤ 100000) : movS (rst s q e p ((d + 1 : Nat) : Int)) (n : Int) (-1) = rst s (q + n) e p (d : Int) := by
  show (_, wrap64 ((q : Int) + (n : Int)), _, _, wrap64 (((d + 1 : Nat) : Int) + (-1))) = _
  rw [wrap_add q n _ rfl (Nat.le_trans h (by decide)), show wrap64 (((d + 1 : Nat) : Int) + (-1)) = (d : Int) by unfold wrap64; omega]
  rfl
theorem sg_c {f m : Nat} {t : Tk} {e p d : Int} (ht : tokAt ((L s).drop f) = (t, m)) : (sg s f e p d).1 = t.rc := by unfold sg; rw [ht]; rfl
theorem sg_n {f m : Nat} {t : Tk} {e p d : Int} (ht : tokAt ((L s).drop f) = (t, m)) : (sg s f e p d).2.1 = t.N := by unfold sg; rw [ht]; rfl
theorem sg_e {f m : Nat} {t : Tk} {e p d : Int} (ht : tokAt ((L s).drop f) = (t, m)) : (sg s f e p d).2.2.1 = t.re := by unfold sg; rw [ht]; rfl
theorem sg_l {f m : Nat} {t : Tk} {e p d : Int} (ht : tokAt ((L s).drop f) = (t, m)) (h : t.K ≠ 2) : (sg s f e p d).2.2.2.1 = (m : Int) := by unfold sg; rw [ht]; exact if_neg h
theorem sg_s {f : Nat} {e p d : Int} : (sg s f e p d).2.2.2.2 = rst s f e p d := rfl
theorem signW_st (hs : s.size ≤ 2000) (q : Nat) (hq : q ≤ s.size) (e p d : Int) : Ev (fun k => signW k l (rst s q e p d)) (sg s (nx (L s) q) e p d) := rsign_ev l s hs q hq e p d
/-- What kind a sign's first byte tells. -/
theorem rc_sign {t : List UInt8} {c : UInt8} {m : Nat} (h : tokAt t = (.one c, m)) : isSign c = true := by
  cases t with
  | nil => simp [tokAt] at h
  | cons b t =>
    rw [tokAt] at h
    unfold tokLt at h
    by_cases hb : isSign b = true
    · rw [if_pos hb] at h
      injection h with h1 h2
      injection h1 with h1
      rw [← h1]; exact hb
    · rw [if_neg hb] at h
      repeat' split at h
      all_goals simp at h
theorem rc_kind {t : List UInt8} {nm : List UInt8} {k : Int} {m : Nat} (h : tokAt t = (.sym nm k, m)) : k = 1 ∨ k = 2 ∨ k = 3 := by
  cases t with
  | nil => simp [tokAt] at h
  | cons b t =>
    rw [tokAt] at h
    unfold tokLt at h
    repeat' split at h
    all_goals first
      | (simp at h; done)
      | (injection h with h1 h2; injection h1 with h1 h3; subst h3; simp)
/-! what comes out -/
def OutA (s : ByteArray) (d : Int) (F : Nat → Option QR) : Rs → Prop
  | .ok v g => ∃ q, q ≤ s.size ∧ nx (L s) q = g ∧ Ev F (qres v (rst s q 0 0 d))
  | .err e p => e ≠ 0 ∧ ∃ x q d', q ≤ s.size ∧ Ev F (qres x (rst s q e (p : Int) d'))
def OutR (s : ByteArray) (d : Int) (F : Nat → Option QR) : Rs → Prop
  | .ok v g => (g ≤ s.size ∧ nx (L s) g = g) ∧ if (tkn (L s) g).stuck = true then ∃ x q d', q ≤ s.size ∧ Ev F (qres x (rst s q 1 (g : Int) d')) else Ev F (qres v (rst s g 0 0 d))
  | .err e p => e ≠ 0 ∧ ∃ x q d', q ≤ s.size ∧ Ev F (qres x (rst s q e (p : Int) d'))
theorem OutA.step {d : Int} {F G : Nat → Option QR} {r : Rs} (h : ∀ k, F (k + 1) = G k) (o : OutA s d G r) : OutA s d F r := by
  cases r with
  | ok v g => obtain ⟨q, h1, h2, h3⟩ := o; exact ⟨q, h1, h2, Ev.step h h3⟩
  | err e p => obtain ⟨o1, x, g, d', o2, o3⟩ := o; exact ⟨o1, x, g, d', o2, Ev.step h o3⟩
theorem OutA.congr {d : Int} {F G : Nat → Option QR} {r : Rs} (h : ∀ k, F k = G k) (o : OutA s d G r) : OutA s d F r := by
  have : F = G := funext h
  rw [this]; exact o
theorem OutA.bind {α : Type} {d : Int} {F : Nat → Option α} {C : Nat → α → Option QR} {a : α} {r : Rs} (h : Ev F a) (o : OutA s d (fun k => C k a) r) : OutA s d (fun k => (F k).bind (C k)) r := by
  cases r with
  | ok v g => obtain ⟨q, h1, h2, h3⟩ := o; exact ⟨q, h1, h2, Ev.bind h h3⟩
  | err e p => obtain ⟨o1, x, g, d', o2, o3⟩ := o; exact ⟨o1, x, g, d', o2, Ev.bind h o3⟩
theorem OutR.lift {d : Int} {F G : Nat → Option QR} {r : Rs} (h : ∀ v, Ev G v → Ev F v) (o : OutR s d G r) : OutR s d F r := by
  cases r with
  | ok v g =>
    refine ⟨o.1, ?_⟩
    have o2 := o.2
    by_cases hk : (tkn (L s) g).stuck = true
    · rw [if_pos hk] at o2 ⊢
      obtain ⟨x, q, d', h1, h2⟩ := o2
      exact ⟨x, q, d', h1, h _ h2⟩
    · rw [if_neg hk] at o2 ⊢
      exact h _ o2
  | err e p => obtain ⟨o1, x, g, d', o2, o3⟩ := o; exact ⟨o1, x, g, d', o2, h _ o3⟩
theorem OutR.step {d : Int} {F G : Nat → Option QR} {r : Rs} (h : ∀ k, F (k + 1) = G k) (o : OutR s d G r) : OutR s d F r := o.lift fun v hv => Ev.step h hv
theorem OutR.congr {d : Int} {F G : Nat → Option QR} {r : Rs} (h : ∀ k, F k = G k) (o : OutR s d G r) : OutR s d F r := o.lift fun v hv => Ev.congr h hv
theorem OutR.bind {α : Type} {d : Int} {F : Nat → Option α} {C : Nat → α → Option QR} {a : α} {r : Rs} (h : Ev F a) (o : OutR s d (fun k => C k a) r) : OutR s d (fun k => (F k).bind (C k)) r := o.lift fun v hv => Ev.bind h hv
/-! an error stays -/
theorem fin_ev (k9 : Int) (acc : List S28) (σ : RS) : Ev (fun _ => fin k9 acc σ) (qres (severalT k9 acc) σ) := Ev.now _
theorem rcat0_err {σ : RS} {acc : List S28} (h : σ.2.2.1 ≠ 0) : Ev (fun k => rcat0 k acc l σ) (qres (severalT 5 acc) σ) :=
  Ev.step (fun k => rcat0_step k l σ acc) (Ev.congr (f := fun _ => fin 5 acc σ) (fun k => by rw [if_neg h]) (fin_ev _ _ _))
theorem rcatG_err (hs : s.size ≤ 2000) {q : Nat} {e p d : Int} {acc : List S28} (hq : q ≤ s.size) (h : e ≠ 0) : ∃ q2, q2 ≤ s.size ∧ Ev (fun k => rcatG k acc l (rst s q e p d)) (qres (severalT 5 acc) (rst s q2 e p d)) := by
  refine ⟨nx (L s) q, by have := nx_le (L s) q (by rw [L_len]; exact hq); rwa [L_len] at this, ?_⟩
  unfold rcatG
  refine Ev.bind (signW_st hs q hq e p d) ?_
  rw [sg_s]
  have h0 := rcat0_err (l := l) (σ := rst s (nx (L s) q) e p d) (acc := acc) h
  have h1 := fin_ev 5 acc (rst s (nx (L s) q) e p d)
  by_cases c0 : (sg s (nx (L s) q) e p d).1 = 0
  · exact Ev.congr (fun k => by rw [if_pos c0]) h1
  by_cases c1 : (sg s (nx (L s) q) e p d).1 = 41
  · exact Ev.congr (fun k => by rw [if_neg c0, if_pos c1]) h1
  by_cases c2 : (sg s (nx (L s) q) e p d).1 = 93
  · exact Ev.congr (fun k => by rw [if_neg c0, if_neg c1, if_pos c2]) h1
  by_cases c3 : (sg s (nx (L s) q) e p d).1 = 124
  · exact Ev.congr (fun k => by rw [if_neg c0, if_neg c1, if_neg c2, if_pos c3]) h1
  · exact Ev.congr (fun k => by rw [if_neg c0, if_neg c1, if_neg c2, if_neg c3]) h0
theorem rcat1_err (hs : s.size ≤ 2000) {q : Nat} {e p d : Int} {acc : List S28} {x : S28} (ha : acc.length < 2932031007402) (hq : q ≤ s.size) (h : e ≠ 0) : ∃ q2, q2 ≤ s.size ∧ Ev (fun k => rcat1 k acc l (rst s q e p d) x) (qres (severalT 5 (acc ++ [x])) (rst s q2 e p d)) := by
  obtain ⟨q2, h1, h2⟩ := rcatG_err (l := l) hs (p := p) (d := d) (acc := acc ++ [x]) hq h
  refine ⟨q2, h1, Ev.step (fun k => rcat1_step k l _ acc x) ?_⟩
  exact Ev.congr (fun k => by rw [if_neg (show ¬ (rst s q e p d).2.2.1 = 0 from h), if_pos ha]) h2
theorem ror0_err {σ : RS} {acc : List S28} (h : σ.2.2.1 ≠ 0) : Ev (fun k => ror0 k acc l σ) (qres (severalT 6 acc) σ) :=
  Ev.step (fun k => ror0_step k l σ acc) (Ev.congr (f := fun _ => fin 6 acc σ) (fun k => by rw [if_neg h]) (fin_ev _ _ _))
theorem ror_err {σ : RS} (h : σ.2.2.1 ≠ 0) : Ev (fun k => rorW k l σ) (qres (severalT 6 []) σ) := Ev.step (fun k => ror_step k l σ) (ror0_err h)
/-- One at a place, told of its sign. -/
structure RSim (l : List S56) (s : ByteArray) (n : Nat) : Prop where
  atom : ∀ (d q f : Nat) r, q ≤ s.size → nx (L s) q = f → d ≤ 41 → aAtom l (L s) n d f = some r → OutA s d (fun k => ratomW k l (rst s q 0 0 d)) r
  cats : ∀ (d q f : Nat) acc r, q ≤ s.size → nx (L s) q = f → d ≤ 41 → acc ≠ [] → acc.length ≤ f → aCats l (L s) n d acc f = some r → OutR s d (fun k => rcatG k acc l (rst s q 0 0 d)) r
  cat0 : ∀ (d q f : Nat) acc r, q ≤ s.size → nx (L s) q = f → d ≤ 41 → acc.length ≤ f → Rs.and (aRep l (L s) n d f) (fun x g => aCats l (L s) n d (acc ++ [x]) g) = some r → OutR s d (fun k => rcat0 k acc l (rst s q 0 0 d)) r
  cat : ∀ (d q f : Nat) r, q ≤ s.size → nx (L s) q = f → d ≤ 41 → aCat l (L s) n d f = some r → OutR s d (fun k => rcatW k l (rst s q 0 0 d)) r
  or0 : ∀ (d q f : Nat) acc r, q ≤ s.size → nx (L s) q = f → d ≤ 41 → acc.length ≤ f → Rs.and (aCat l (L s) n d f) (fun x g => aOrs l (L s) n d (acc ++ [x]) g) = some r → OutR s d (fun k => ror0 k acc l (rst s q 0 0 d)) r
  or : ∀ (d q f : Nat) r, q ≤ s.size → nx (L s) q = f → d ≤ 41 → aOr l (L s) n d f = some r → OutR s d (fun k => rorW k l (rst s q 0 0 d)) r
theorem nxF (q : Nat) (hq : q ≤ s.size) : nx (L s) q ≤ s.size := by have := nx_le (L s) q (by rw [L_len]; exact hq); rwa [L_len] at this
theorem nx_nx (q : Nat) : nx (L s) (nx (L s) q) = nx (L s) q := nx_same (nx_idem (L s) q)
/-- Stars behind one, then what stands behind. -/
theorem rstars (hs : s.size ≤ 2000) {n : Nat} (d : Nat) (acc : List S28) (hd : d ≤ 41) (C : ∀ y q f r, q ≤ s.size → nx (L s) q = f → acc.length + 1 ≤ f → aCats l (L s) n d (acc ++ [y]) f = some r → OutR s d (fun k => rcatG k (acc ++ [y]) l (rst s q 0 0 d)) r) :
    ∀ (j : Nat) (x : S28) (q f : Nat) r, q ≤ s.size → nx (L s) q = f → acc.length + 1 ≤ f → Rs.and (aStars l (L s) j x f) (fun y g => aCats l (L s) n d (acc ++ [y]) g) = some r → OutR s d (fun k => rcat1 k acc l (rst s q 0 0 d) x) r
  | 0, x, q, f, r, _, _, _, h => by simp [aStars, Rs.and] at h
  | j + 1, x, q, f, r, hq, hf, ha, h => by
    have hfs : f ≤ s.size := by rw [← hf]; exact nxF q hq
    refine OutR.step (fun k => rcat1_step k l _ acc x) ?_
    refine OutR.congr (fun k => by rw [if_pos (show (rst s q 0 0 (d : Int)).2.2.1 = 0 from rfl)]) ?_
    have hsg := signW_st (l := l) hs q hq 0 0 (d : Int)
    rw [hf] at hsg
    refine OutR.bind hsg ?_
    obtain ⟨t, m, ht⟩ : ∃ t m, tokAt ((L s).drop f) = (t, m) := ⟨_, _, rfl⟩
    rw [sg_c ht, sg_s]
    rw [aStars] at h
    have hacc : acc.length < 2932031007402 := by omega
    by_cases hq42 : (tokAt ((L s).drop f)).1.isOne 42 = true
    · rw [if_pos hq42] at h
      have e0 := one_step hq42 (by rw [L_len]; exact hfs)
      have e1 := e0.2.2
      rw [L_len] at e0
      rw [ht] at hq42
      have hc : t.rc = 42 := by
        cases t with
        | one c => simp only [Tk.isOne, beq_iff_eq] at hq42; subst hq42; rfl
        | _ => cases hq42
      refine OutR.congr (fun k => by rw [if_pos hc, show advS (rst s f 0 0 (d : Int)) 1 = rst s (f + 1) 0 0 (d : Int) from adv_st (n := 1) (by omega)]) ?_
      have hle := tok_le (L s) f (by rw [L_len]; exact hfs)
      rw [e1, L_len] at hle
      exact rstars hs d acc hd C j _ (f + 1) _ r hle rfl (by have := nx_ge (L s) (f + 1); omega) h
    · rw [if_neg hq42] at h
      rw [ht] at hq42
      have hc : ¬ t.rc = 42 := by
        cases t with
        | one c =>
          intro h2
          apply hq42
          simp only [Tk.isOne, beq_iff_eq]
          exact UInt8.toNat_inj.1 (by simp only [Tk.rc] at h2; simpa using (by omega : c.toNat = 42))
        | sym nm k => simp only [Tk.rc]; split; decide; split <;> decide
        | eof => decide
        | bad => decide
        | nest nm => simp [Tk.rc]
        | over nm => simp [Tk.rc]
      refine OutR.congr (fun k => by rw [if_neg hc, if_pos hacc]) ?_
      exact C x f f r hfs (by rw [← hf]; exact nx_nx q) ha h
end
end Go.Proofs.YtodbnnfiadcbaaaL
namespace Go.Proofs.YtodbnnfiadcbaaaL
open Go.RowKit Go.Proofs.Ytodbnnfiadcbaaa.P Go.Proofs.YtodbnnfiadcbaaaW.PrintWords Go.Proofs.YtodbnnfiadcbaaaW.PrintLast Go.Proofs.YtodbnnfiadcbaaaW.PrintMore
set_option linter.unusedSimpArgs false
set_option linter.unusedVariables false
section
variable {l : List S56} {s : ByteArray}
theorem in_err {q : Nat} {e p d : Int} (h : e ≠ 0) : ∃ D, inS (rst s q e p d) = rst s q e p D := by
  unfold inS
  rw [failS_no h]
  split <;> exact ⟨_, rfl⟩
theorem in_deep {q d : Nat} (h : 40 < d) : ∃ D, inS (rst s q 0 0 (d : Int)) = rst s q 3 (q : Int) D := by
  unfold inS
  rw [if_pos (show (rst s q 0 0 (d : Int)).2.2.2.2 > 40 from by show (d : Int) > 40; omega)]
  exact ⟨_, rfl⟩
theorem in_ok {q d : Nat} (h : ¬ 40 < d) : inS (rst s q 0 0 (d : Int)) = rst s q 0 0 ((d + 1 : Nat) : Int) := by
  unfold inS
  rw [if_neg (show ¬ (rst s q 0 0 (d : Int)).2.2.2.2 > 40 from by show ¬ (d : Int) > 40; omega)]
  show (_, _, _, _, wrap64 ((d : Int) + 1)) = _
  rw [show wrap64 ((d : Int) + 1) = ((d + 1 : Nat) : Int) by unfold wrap64; omega]
  rfl
/-- Behind a parenthesis, where an error is told already. -/
theorem rparen_err (hs : s.size ≤ 2000) {F : Nat → Option QR} {x : S28} {q p : Nat} {e D : Int} {d : Int} (hq : q ≤ s.size) (he : e ≠ 0) (hF : Ev F (qres x (rst s q e p D))) : OutA s d (fun k => (F k).bind fun r => (signW k l r.2.2.2.2).bind fun z => if z.1 = 41 then some (qres (qex r) (movS z.2.2.2.2 1 (-1))) else some (qres zex (failS z.2.2.2.2 1 z.2.2.2.2.2.1))) (.err e p) := by
  refine OutA.bind hF ?_
  refine OutA.bind (signW_st hs q hq e p D) ?_
  have hf := nxF q hq
  generalize nx (L s) q = f at hf
  obtain ⟨t, m, ht⟩ : ∃ t m, tokAt ((L s).drop f) = (t, m) := ⟨_, _, rfl⟩
  rw [sg_c ht, sg_s, failS_no he]
  by_cases hc : t.rc = 41
  · refine OutA.congr (fun k => by rw [if_pos hc]) ?_
    have hlt : f + 1 ≤ s.size := by
      rcases Nat.lt_or_ge f s.size with h | h
      · omega
      · rw [List.drop_eq_nil_of_le (by rw [L_len]; omega)] at ht
        injection ht with h1 h2
        rw [← h1] at hc
        exact absurd hc (by decide)
    refine ⟨he, qex (qres x (rst s q e p D)), f + 1, wrap64 (D + (-1)), hlt, ?_⟩
    have e1 : movS (rst s f e (p : Int) D) 1 (-1) = rst s (f + 1) e (p : Int) (wrap64 (D + (-1))) := by
      show (_, wrap64 ((f : Int) + 1), _, _, _) = _
      rw [wrap_suc f s.size hlt (Nat.le_trans hs (by decide))]
      rfl
    rw [e1]
    exact Ev.now _
  · exact OutA.congr (fun k => by rw [if_neg hc]) ⟨he, zex, f, D, hf, Ev.now _⟩
theorem rnest_err (hs : s.size ≤ 2000) (hl : l.length ≤ 1000) {F : Nat → Option QR} {x : S28} {a : Int} {q p : Nat} {e D : Int} {d : Int} (hq : q ≤ s.size) (he : e ≠ 0) (hF : Ev F (qres x (rst s q e p D))) : OutA s d (fun k => (F k).bind fun r => (signW k l r.2.2.2.2).bind fun z => if z.1 = 93 then (rfindW k l z.2.2.2.2 z.2.1 2).bind fun u => some (qres ⟨4, a, u.1, [qex r]⟩ (movS u.2 z.2.2.2.1 (-1))) else some (qres zex (failS z.2.2.2.2 1 z.2.2.2.2.2.1))) (.err e p) := by
  refine OutA.bind hF ?_
  refine OutA.bind (signW_st hs q hq e p D) ?_
  have hf := nxF q hq
  generalize nx (L s) q = f at hf
  obtain ⟨t, m, ht⟩ : ∃ t m, tokAt ((L s).drop f) = (t, m) := ⟨_, _, rfl⟩
  have hle := tok_le (L s) f (by rw [L_len]; exact hf)
  rw [ht, L_len] at hle
  rw [sg_c ht, sg_s, sg_n ht, failS_no he]
  by_cases hc : t.rc = 93
  · refine OutA.congr (fun k => by rw [if_pos hc]) ?_
    obtain ⟨nm, rfl⟩ : ∃ nm, t = .over nm := by
      cases t with
      | over nm => exact ⟨nm, rfl⟩
      | one c =>
        have h1 := rc_sign ht
        have : c = 93 := UInt8.toNat_inj.1 (by simp only [Tk.rc] at hc; simpa using (by omega : c.toNat = 93))
        rw [this] at h1
        exact absurd h1 (by decide)
      | sym nm k => exfalso; simp only [Tk.rc] at hc; split at hc; exact absurd hc (by decide); split at hc <;> exact absurd hc (by decide)
      | _ => exact absurd hc (by simp [Tk.rc])
    refine OutA.bind (rfind_ev l hl _ nm 2) ?_
    rw [sg_l ht (by simp [Tk.K]), failS_no he]
    have e1 : movS (rst s f e (p : Int) D) (m : Int) (-1) = rst s (f + m) e (p : Int) (wrap64 (D + (-1))) := by
      show (_, wrap64 ((f : Int) + (m : Int)), _, _, _) = _
      rw [wrap_add f m _ rfl (Nat.le_trans hle (Nat.le_trans hs (by decide)))]
      rfl
    cases findT l nm 2 0 with
    | some j => exact ⟨he, ⟨4, a, j, [qex (qres x (rst s q e p D))]⟩, f + m, wrap64 (D + (-1)), hle, by rw [← e1]; exact Ev.now _⟩
    | none => exact ⟨he, ⟨4, a, 0, [qex (qres x (rst s q e p D))]⟩, f + m, wrap64 (D + (-1)), hle, by rw [← e1]; exact Ev.now _⟩
  · exact OutA.congr (fun k => by rw [if_neg hc]) ⟨he, zex, f, D, hf, Ev.now _⟩
theorem one_ne {c n : UInt8} {m : Int} (hm : m = (n.toNat : Int)) (h : c ≠ n) : ¬ (Tk.one c).rc = m := by
  intro h2
  apply h
  simp only [Tk.rc] at h2
  exact UInt8.toNat_inj.1 (by omega)
theorem ratom_sim (hs : s.size ≤ 2000) (hl : l.length ≤ 1000) {n : Nat} (ihor : ∀ (d q f : Nat) r, q ≤ s.size → nx (L s) q = f → d ≤ 41 → aOr l (L s) n d f = some r → OutR s d (fun k => rorW k l (rst s q 0 0 d)) r) :
    ∀ (d q f : Nat) r, q ≤ s.size → nx (L s) q = f → d ≤ 41 → aAtom l (L s) (n + 1) d f = some r → OutA s d (fun k => ratomW k l (rst s q 0 0 d)) r := by
  intro d q f r hq hf hd h
  have hfs : f ≤ s.size := by rw [← hf]; exact nxF q hq
  refine OutA.step (fun k => ratom_step k l _) ?_
  have hsg := signW_st (l := l) hs q hq 0 0 (d : Int)
  rw [hf] at hsg
  refine OutA.bind hsg ?_
  obtain ⟨t, m, ht⟩ : ∃ t m, tokAt ((L s).drop f) = (t, m) := ⟨_, _, rfl⟩
  have hle := tok_le (L s) f (by rw [L_len]; exact hfs)
  rw [ht, L_len] at hle
  have hle : f + m ≤ s.size := hle
  have hbig : f + m ≤ 100000 := le_big hle hs
  rw [sg_c ht, sg_s, sg_n ht, sg_e ht]
  rw [aAtom, ht] at h
  have J := fun (c : Int) (nm : ByteArray) (x : Int) (b : Bool) => fun k => ratomJ_step k l (rst s f 0 0 (d : Int)) c nm x b
  have wrongHere : ∀ (c : Int) (nm : ByteArray) (x : Int), ¬ c = 40 → ¬ c = 60 → OutA s d (fun k => ratomJ k c nm x false l (rst s f 0 0 (d : Int))) (.err 1 f) := fun c nm x h1 h2 => by
    refine OutA.step (J c nm x false) ?_
    exact OutA.congr (fun k => by rw [if_neg (show ¬ false = true by decide), if_neg h1, if_neg h2]; rfl) ⟨by decide, zex, f, d, hfs, Ev.now _⟩
  cases t with
  | one c =>
    have e0 := one_step (s := L s) (f := f) (c := c) (by rw [ht]; simp [Tk.isOne]) (by rw [L_len]; exact hfs)
    have e1 := e0.2.2
    obtain rfl : m = 1 := by rw [ht] at e1; exact (Prod.mk.inj e1).2
    rw [sg_l ht (by simp [Tk.K])]
    have hadv : advS (rst s f 0 0 (d : Int)) ((1 : Nat) : Int) = rst s (f + 1) 0 0 (d : Int) := adv_st hbig
    by_cases h48 : c = 48
    · subst h48
      injection h with h; subst h
      refine OutA.congr (fun k => by rw [if_pos (show (Tk.one 48).rc = 48 from rfl), hadv]) ?_
      exact ⟨f + 1, hle, rfl, Ev.now _⟩
    by_cases h49 : c = 49
    · subst h49
      injection h with h; subst h
      refine OutA.congr (fun k => by rw [if_neg (show ¬ (Tk.one 49).rc = 48 by decide), if_pos (show (Tk.one 49).rc = 49 from rfl), hadv]) ?_
      exact ⟨f + 1, hle, rfl, Ev.now _⟩
    simp only [if_neg h48, if_neg h49] at h
    have hsn := rc_sign ht
    have hc3 : c = 40 ∨ c = 41 ∨ c = 124 ∨ c = 42 := by
      unfold isSign at hsn
      simp only [Bool.or_eq_true, beq_iff_eq] at hsn
      rcases hsn with ((((h1 | h1) | h1) | h1) | h1) | h1
      · exact absurd h1 h48
      · exact absurd h1 h49
      · exact .inl h1
      · exact .inr (.inl h1)
      · exact .inr (.inr (.inl h1))
      · exact .inr (.inr (.inr h1))
    by_cases h40 : c = 40
    · subst h40
      rw [if_pos rfl] at h
      refine OutA.congr (fun k => by rw [if_neg (show ¬ (Tk.one 40).rc = 48 by decide), if_neg (show ¬ (Tk.one 40).rc = 49 by decide), if_neg (show ¬ (Tk.one 40).rc = 97 by decide), if_neg (show ¬ (Tk.one 40).rc = 47 by decide), if_neg (show ¬ (Tk.one 40).rc = 60 by decide)]) ?_
      refine OutA.step (J _ _ _ false) ?_
      refine OutA.congr (fun k => by rw [if_neg (show ¬ false = true by decide), if_pos (show (Tk.one 40).rc = 40 from rfl)]) ?_
      by_cases hd40 : 40 < d
      · rw [if_pos hd40] at h
        injection h with h; subst h
        obtain ⟨D, hD⟩ := in_deep (s := s) (q := f) hd40
        rw [hD, adv_st hbig]
        exact rparen_err hs hle (by decide) (ror_err (by show (3 : Int) ≠ 0; decide))
      · rw [if_neg hd40] at h
        rw [in_ok hd40, adv_st hbig]
        rcases Rs.and_cases h with ⟨x, g, h1, h2⟩ | ⟨e, p, h1, rfl⟩
        · obtain ⟨⟨o1, og⟩, o2⟩ := ihor (d + 1) (f + 1) _ _ hle rfl (by omega) h1
          by_cases hst : (tkn (L s) g).stuck = true
          · rw [if_pos hst] at o2
            obtain ⟨y, q2, D, o3, o4⟩ := o2
            have hn : ¬ (tokAt ((L s).drop g)).1.isOne 41 = true := by
              have hst : (tokAt ((L s).drop g)).1.stuck = true := hst
              intro h3
              cases hq3 : (tokAt ((L s).drop g)).1 with
              | one b =>
                rw [hq3] at hst h3
                simp only [Tk.isOne, beq_iff_eq] at h3
                subst h3
                revert hst; decide
              | _ => rw [hq3] at h3; cases h3
            rw [if_neg hn] at h2
            injection h2 with h2; subst h2
            exact rparen_err hs o3 (by decide) o4
          · rw [if_neg hst] at o2
            refine OutA.bind o2 ?_
            have hs2 := signW_st (l := l) hs g o1 0 0 ((d + 1 : Nat) : Int)
            rw [og] at hs2
            refine OutA.bind hs2 ?_
            obtain ⟨t2, m2, ht2⟩ : ∃ t m, tokAt ((L s).drop g) = (t, m) := ⟨_, _, rfl⟩
            rw [sg_c ht2, sg_s, qex_res]
            by_cases hq : (tokAt ((L s).drop g)).1.isOne 41 = true
            · have e2 := one_step hq (by rw [L_len]; exact o1)
              have hle2 := tok_le (L s) g (by rw [L_len]; exact o1)
              rw [e2.2.2, L_len] at hle2
              have hle2 : g + 1 ≤ s.size := hle2
              rw [if_pos hq] at h2
              injection h2 with h2; subst h2
              have ht3 : t2 = .one 41 := by rw [e2.2.2] at ht2; exact (Prod.mk.inj ht2).1.symm
              refine OutA.congr (fun k => by rw [if_pos (show t2.rc = 41 by rw [ht3]; rfl), show movS (rst s g 0 0 ((d + 1 : Nat) : Int)) 1 (-1) = rst s (g + 1) 0 0 (d : Int) from mov_st (n := 1) (le_big hle2 hs) (by omega)]) ?_
              exact ⟨g + 1, hle2, rfl, Ev.now _⟩
            · rw [if_neg hq] at h2
              injection h2 with h2; subst h2
              rw [ht2] at hq
              have hc41 : ¬ t2.rc = 41 := by
                cases t2 with
                | one b => exact one_ne (m := 41) (n := 41) rfl (fun h3 => hq (by simp [Tk.isOne, h3]))
                | sym nm k => simp only [Tk.rc]; split; decide; split <;> decide
                | _ => simp [Tk.rc]
              exact OutA.congr (fun k => by rw [if_neg hc41]; rfl) ⟨by decide, zex, g, _, o1, Ev.now _⟩
        · obtain ⟨o1, x, g, D, o2, o3⟩ := ihor (d + 1) (f + 1) _ _ hle rfl (by omega) h1
          exact rparen_err hs o2 o1 o3
    · simp only [if_neg h40] at h
      injection h with h; subst h
      have n97 : ¬ (Tk.one c).rc = 97 := one_ne (m := 97) (n := 97) rfl (by rcases hc3 with rfl | rfl | rfl | rfl <;> decide)
      have n47 : ¬ (Tk.one c).rc = 47 := one_ne (m := 47) (n := 47) rfl (by rcases hc3 with rfl | rfl | rfl | rfl <;> decide)
      have n60 : ¬ (Tk.one c).rc = 60 := one_ne (m := 60) (n := 60) rfl (by rcases hc3 with rfl | rfl | rfl | rfl <;> decide)
      exact OutA.congr (fun k => by rw [if_neg (one_ne (m := 48) (n := 48) rfl h48), if_neg (one_ne (m := 49) (n := 49) rfl h49), if_neg n97, if_neg n47, if_neg n60]) (wrongHere _ _ _ (one_ne (m := 40) (n := 40) rfl h40) n60)
  | sym nm kd =>
    rw [sg_l ht (by simp [Tk.K])]
    have hk := rc_kind ht
    simp only at h
    have tail : ∀ kd2 : Int, kd2 = kd → OutA s d (fun k => (rfindW k l (rst s f 0 0 (d : Int)) (B nm) kd2).bind fun y => some (qres ⟨3, y.1, 0, []⟩ (advS y.2 (m : Int)))) r := by
      intro kd2 hk2
      rw [hk2]
      refine OutA.bind (rfind_ev l hl _ nm kd) ?_
      cases hq2 : findT l nm kd 0 with
      | some i =>
        rw [hq2] at h
        injection h with h; subst h
        have := adv_st (s := s) (q := f) (n := m) (e := 0) (p := 0) (d := (d : Int)) hbig
        exact ⟨f + m, hle, rfl, by rw [← this]; exact Ev.now _⟩
      | none =>
        rw [hq2] at h
        injection h with h; subst h
        have := adv_st (s := s) (q := f) (n := m) (e := 6) (p := (f : Int)) (d := (d : Int)) hbig
        exact ⟨by decide, _, f + m, d, hle, by rw [← this]; exact Ev.now _⟩
    rcases hk with hk | hk | hk
    · refine OutA.congr (fun k => by rw [if_neg (show ¬ (Tk.sym nm kd).rc = 48 by rw [hk]; simp [Tk.rc]), if_neg (show ¬ (Tk.sym nm kd).rc = 49 by rw [hk]; simp [Tk.rc]), if_neg (show ¬ (Tk.sym nm kd).rc = 97 by rw [hk]; simp [Tk.rc]), if_neg (show ¬ (Tk.sym nm kd).rc = 47 by rw [hk]; simp [Tk.rc]), if_pos (show (Tk.sym nm kd).rc = 60 by rw [hk]; rfl)]) ?_
      refine OutA.step (J _ _ _ _) ?_
      refine OutA.congr (fun k => by rw [if_pos (show ((Tk.sym nm kd).re == 62) = true by rw [hk]; rfl)]) ?_
      exact tail 1 hk.symm
    · refine OutA.congr (fun k => by rw [if_neg (show ¬ (Tk.sym nm kd).rc = 48 by rw [hk]; simp [Tk.rc]), if_neg (show ¬ (Tk.sym nm kd).rc = 49 by rw [hk]; simp [Tk.rc]), if_neg (show ¬ (Tk.sym nm kd).rc = 97 by rw [hk]; simp [Tk.rc]), if_pos (show (Tk.sym nm kd).rc = 47 by rw [hk]; rfl)]) ?_
      exact tail 2 hk.symm
    · refine OutA.congr (fun k => by rw [if_neg (show ¬ (Tk.sym nm kd).rc = 48 by rw [hk]; simp [Tk.rc]), if_neg (show ¬ (Tk.sym nm kd).rc = 49 by rw [hk]; simp [Tk.rc]), if_pos (show (Tk.sym nm kd).rc = 97 by rw [hk]; rfl)]) ?_
      exact tail 3 hk.symm
  | nest nm =>
    rw [sg_l ht (by simp [Tk.K])]
    simp only at h
    refine OutA.congr (fun k => by rw [if_neg (show ¬ (Tk.nest nm).rc = 48 by simp [Tk.rc]), if_neg (show ¬ (Tk.nest nm).rc = 49 by simp [Tk.rc]), if_neg (show ¬ (Tk.nest nm).rc = 97 by simp [Tk.rc]), if_neg (show ¬ (Tk.nest nm).rc = 47 by simp [Tk.rc]), if_pos (show (Tk.nest nm).rc = 60 from rfl)]) ?_
    refine OutA.step (J _ _ _ _) ?_
    refine OutA.congr (G := fun k => (rnestW k l (rst s f 0 0 (d : Int)) (B nm) (m : Int)).bind fun r => some r) (fun k => by
      rw [if_neg (show ¬ ((Tk.nest nm).re == 62) = true by simp [Tk.re]), if_neg (show ¬ (Tk.nest nm).rc = 40 by simp [Tk.rc]), if_pos (show (Tk.nest nm).rc = 60 from rfl)]
      rfl) ?_
    have wrapUp : OutA s d (fun k => rnestW k l (rst s f 0 0 (d : Int)) (B nm) (m : Int)) r → OutA s d (fun k => (rnestW k l (rst s f 0 0 (d : Int)) (B nm) (m : Int)).bind fun r => some r) r := fun o => OutA.congr (fun k => by cases rnestW k l (rst s f 0 0 (d : Int)) (B nm) (m : Int) <;> rfl) o
    refine wrapUp ?_
    refine OutA.step (fun k => rnest_step k l _ _ _) ?_
    refine OutA.bind (rfind_ev l hl _ nm 1) ?_
    cases hq : findT l nm 1 0 with
    | none =>
      rw [hq] at h
      injection h with h; subst h
      simp only
      obtain ⟨D, hD⟩ := in_err (s := s) (q := f) (e := 6) (p := (f : Int)) (d := (d : Int)) (by decide)
      rw [show failS (rst s f 0 0 (d : Int)) 6 (rst s f 0 0 (d : Int)).2.1 = rst s f 6 (f : Int) (d : Int) from rfl, hD, adv_st hbig]
      exact rnest_err hs hl hle (by decide) (ror_err (by show (6 : Int) ≠ 0; decide))
    | some a =>
      rw [hq] at h
      simp only at h ⊢
      by_cases hd40 : 40 < d
      · rw [if_pos hd40] at h
        injection h with h; subst h
        obtain ⟨D, hD⟩ := in_deep (s := s) (q := f) hd40
        rw [hD, adv_st hbig]
        exact rnest_err hs hl hle (by decide) (ror_err (by show (3 : Int) ≠ 0; decide))
      · rw [if_neg hd40] at h
        rw [in_ok hd40, adv_st hbig]
        rcases Rs.and_cases h with ⟨x, g, h1, h2⟩ | ⟨e, p, h1, rfl⟩
        · obtain ⟨⟨o1, og⟩, o2⟩ := ihor (d + 1) (f + m) _ _ hle rfl (by omega) h1
          obtain ⟨t2, m2, ht2⟩ : ∃ t m, tokAt ((L s).drop g) = (t, m) := ⟨_, _, rfl⟩
          rw [ht2] at h2
          by_cases hst : (tkn (L s) g).stuck = true
          · rw [if_pos hst] at o2
            obtain ⟨y, q2, D, o3, o4⟩ := o2
            have hst : (tokAt ((L s).drop g)).1.stuck = true := hst
            rw [ht2] at hst
            have h2 : some (Rs.err 1 g) = some r := by
              cases t2 with
              | over nm2 => exact absurd hst (by simp [Tk.stuck, Tk.K, Tk.isOne])
              | _ => exact h2
            injection h2 with h2; subst h2
            exact rnest_err hs hl o3 (by decide) o4
          · rw [if_neg hst] at o2
            refine OutA.bind o2 ?_
            have hs2 := signW_st (l := l) hs g o1 0 0 ((d + 1 : Nat) : Int)
            rw [og] at hs2
            refine OutA.bind hs2 ?_
            rw [sg_c ht2, sg_s, sg_n ht2, qex_res]
            have bad : ¬ t2.rc = 93 → some (Rs.err 1 g) = some r → OutA s d (fun k => if t2.rc = 93 then (rfindW k l (rst s g 0 0 ((d + 1 : Nat) : Int)) t2.N 2).bind fun u => some (qres ⟨4, a, u.1, [x]⟩ (movS u.2 (sg s g 0 0 ((d + 1 : Nat) : Int)).2.2.2.1 (-1))) else some (qres zex (failS (rst s g 0 0 ((d + 1 : Nat) : Int)) 1 (rst s g 0 0 ((d + 1 : Nat) : Int)).2.1))) r := fun hc hr => by
              injection hr with hr; subst hr
              exact OutA.congr (fun k => by rw [if_neg hc]; rfl) ⟨by decide, zex, g, _, o1, Ev.now _⟩
            cases t2 with
            | over nm2 =>
              have hle2 := tok_le (L s) g (by rw [L_len]; exact o1)
              rw [ht2, L_len] at hle2
              have hle2 : g + m2 ≤ s.size := hle2
              refine OutA.congr (fun k => by rw [if_pos (show (Tk.over nm2).rc = 93 from rfl)]) ?_
              refine OutA.bind (rfind_ev l hl _ nm2 2) ?_
              rw [sg_l ht2 (by simp [Tk.K])]
              simp only at h2
              cases hq2 : findT l nm2 2 0 with
              | some b =>
                rw [hq2] at h2
                injection h2 with h2; subst h2
                have := mov_st (s := s) (q := g) (n := m2) (d := d) (e := 0) (p := 0) (le_big hle2 hs) (by omega)
                exact ⟨g + m2, hle2, rfl, by rw [← this]; exact Ev.now _⟩
              | none =>
                rw [hq2] at h2
                injection h2 with h2; subst h2
                have := mov_st (s := s) (q := g) (n := m2) (d := d) (e := 6) (p := (g : Int)) (le_big hle2 hs) (by omega)
                exact ⟨by decide, _, g + m2, d, hle2, by rw [← this]; exact Ev.now _⟩
            | eof => exact bad (by decide) h2
            | bad => exact bad (by decide) h2
            | one c => exact bad (one_ne (m := 93) (n := 93) rfl (fun hc => by have h9 := rc_sign ht2; rw [hc] at h9; exact absurd h9 (by decide))) h2
            | sym nm2 k2 => exact bad (by simp only [Tk.rc]; split; decide; split <;> decide) h2
            | nest nm2 => exact bad (by simp [Tk.rc]) h2
        · obtain ⟨o1, x, g, D, o2, o3⟩ := ihor (d + 1) (f + m) _ _ hle rfl (by omega) h1
          exact rnest_err hs hl o2 o1 o3
  | over nm =>
    injection h with h; subst h
    exact OutA.congr (fun k => by rw [if_neg (show ¬ (Tk.over nm).rc = 48 by simp [Tk.rc]), if_neg (show ¬ (Tk.over nm).rc = 49 by simp [Tk.rc]), if_neg (show ¬ (Tk.over nm).rc = 97 by simp [Tk.rc]), if_neg (show ¬ (Tk.over nm).rc = 47 by simp [Tk.rc]), if_neg (show ¬ (Tk.over nm).rc = 60 by simp [Tk.rc])]; rfl) (wrongHere 93 _ _ (by decide) (by decide))
  | eof =>
    injection h with h; subst h
    exact OutA.congr (fun k => by rw [if_neg (show ¬ (Tk.eof).rc = 48 by simp [Tk.rc]), if_neg (show ¬ (Tk.eof).rc = 49 by simp [Tk.rc]), if_neg (show ¬ (Tk.eof).rc = 97 by simp [Tk.rc]), if_neg (show ¬ (Tk.eof).rc = 47 by simp [Tk.rc]), if_neg (show ¬ (Tk.eof).rc = 60 by simp [Tk.rc])]; rfl) (wrongHere 0 _ _ (by decide) (by decide))
  | bad =>
    injection h with h; subst h
    exact OutA.congr (fun k => by rw [if_neg (show ¬ (Tk.bad).rc = 48 by simp [Tk.rc]), if_neg (show ¬ (Tk.bad).rc = 49 by simp [Tk.rc]), if_neg (show ¬ (Tk.bad).rc = 97 by simp [Tk.rc]), if_neg (show ¬ (Tk.bad).rc = 47 by simp [Tk.rc]), if_neg (show ¬ (Tk.bad).rc = 60 by simp [Tk.rc])]; rfl) (wrongHere 63 _ _ (by decide) (by decide))
end
end Go.Proofs.YtodbnnfiadcbaaaL
namespace Go.Proofs.YtodbnnfiadcbaaaL
open Go.RowKit Go.Proofs.Ytodbnnfiadcbaaa.P Go.Proofs.YtodbnnfiadcbaaaW.PrintWords Go.Proofs.YtodbnnfiadcbaaaW.PrintLast Go.Proofs.YtodbnnfiadcbaaaW.PrintMore
set_option linter.unusedSimpArgs false
set_option linter.unusedVariables false
section
variable {l : List S56} {s : ByteArray}
theorem not_stuck {t : Tk} (h : t.stuck = false) : t.K ≠ 2 ∧ t.isOne 42 = false := by
  unfold Tk.stuck at h
  rw [Bool.or_eq_false_iff] at h
  exact ⟨by simpa using h.1, h.2⟩
theorem ok_here {d f : Nat} {v : S28} {F : Nat → Option QR} (hf : f ≤ s.size) (hn : nx (L s) f = f) (hs : (tkn (L s) f).stuck = false) (h : Ev F (qres v (rst s f 0 0 (d : Int)))) : OutR s d F (.ok v f) := by
  refine ⟨⟨hf, hn⟩, ?_⟩
  rw [if_neg (by rw [hs]; decide)]
  exact h
theorem stuck_here {d f : Nat} {v : S28} {F : Nat → Option QR} (hf : f ≤ s.size) (hn : nx (L s) f = f) (hs : (tkn (L s) f).stuck = true) (h : ∃ x q d', q ≤ s.size ∧ Ev F (qres x (rst s q 1 (f : Int) d'))) : OutR s d F (.ok v f) := by
  refine ⟨⟨hf, hn⟩, ?_⟩
  rw [if_pos hs]
  exact h
theorem rsim (hs : s.size ≤ 2000) (hl : l.length ≤ 1000) : ∀ n, RSim l s n
  | 0 => by constructor <;> intros <;> simp_all [aAtom, aRep, aCat, aOr, aStars, aCats, aOrs, Rs.and]
  | n + 1 => by
    have ih := rsim hs hl n
    have hb := bnd l (L s) n
    have hb1 := bnd l (L s) (n + 1)
    have hL : (L s).length = s.size := L_len s
    have atom := ratom_sim (n := n) hs hl ih.or
    have cats : ∀ (d q f : Nat) acc r, q ≤ s.size → nx (L s) q = f → d ≤ 41 → acc ≠ [] → acc.length ≤ f → aCats l (L s) (n + 1) d acc f = some r → OutR s d (fun k => rcatG k acc l (rst s q 0 0 d)) r := by
      intro d q f acc r hq hf hd hne ha h
      have hfs : f ≤ s.size := by rw [← hf]; exact nxF q hq
      have hff : nx (L s) f = f := by rw [← hf]; exact nx_nx q
      have hsg := signW_st (l := l) hs q hq 0 0 (d : Int)
      rw [hf] at hsg
      unfold rcatG
      refine OutR.bind hsg ?_
      obtain ⟨t, m, ht⟩ : ∃ t m, tokAt ((L s).drop f) = (t, m) := ⟨_, _, rfl⟩
      have htk : tkn (L s) f = t := by unfold tkn; rw [ht]
      rw [sg_c ht, sg_s]
      rw [aCats, ht] at h
      have go : t.begins = true → (¬ t.rc = 0 ∧ ¬ t.rc = 41 ∧ ¬ t.rc = 93 ∧ ¬ t.rc = 124) → OutR s d (fun k => if t.rc = 0 then fin 5 acc (rst s f 0 0 (d : Int)) else if t.rc = 41 then fin 5 acc (rst s f 0 0 (d : Int)) else if t.rc = 93 then fin 5 acc (rst s f 0 0 (d : Int)) else if t.rc = 124 then fin 5 acc (rst s f 0 0 (d : Int)) else rcat0 k acc l (rst s f 0 0 (d : Int))) r := fun hq9 hc => by
        rw [if_pos hq9] at h
        exact OutR.congr (fun k => by rw [if_neg hc.1, if_neg hc.2.1, if_neg hc.2.2.1, if_neg hc.2.2.2]) (ih.cat0 d f f acc r hfs hff hd ha h)
      have stop : t.begins = false → t.stuck = false → (t.rc = 0 ∨ t.rc = 41 ∨ t.rc = 93 ∨ t.rc = 124) → OutR s d (fun k => if t.rc = 0 then fin 5 acc (rst s f 0 0 (d : Int)) else if t.rc = 41 then fin 5 acc (rst s f 0 0 (d : Int)) else if t.rc = 93 then fin 5 acc (rst s f 0 0 (d : Int)) else if t.rc = 124 then fin 5 acc (rst s f 0 0 (d : Int)) else rcat0 k acc l (rst s f 0 0 (d : Int))) r := fun hq9 hst hc => by
        rw [if_neg (by rw [hq9]; decide)] at h
        injection h with h; subst h
        refine ok_here hfs hff (by rw [htk]; exact hst) ?_
        refine Ev.congr (f := fun _ => fin 5 acc (rst s f 0 0 (d : Int))) (fun k => ?_) (fin_ev _ _ _)
        rcases hc with hc | hc | hc | hc <;> rw [hc] <;> rfl
      have stuck : t.begins = false → t.stuck = true → aAtom l (L s) (n + 1) d f = some (.err 1 f) → (¬ t.rc = 0 ∧ ¬ t.rc = 41 ∧ ¬ t.rc = 93 ∧ ¬ t.rc = 124) → OutR s d (fun k => if t.rc = 0 then fin 5 acc (rst s f 0 0 (d : Int)) else if t.rc = 41 then fin 5 acc (rst s f 0 0 (d : Int)) else if t.rc = 93 then fin 5 acc (rst s f 0 0 (d : Int)) else if t.rc = 124 then fin 5 acc (rst s f 0 0 (d : Int)) else rcat0 k acc l (rst s f 0 0 (d : Int))) r := fun hq9 hst hat hc => by
        rw [if_neg (by rw [hq9]; decide)] at h
        injection h with h; subst h
        refine stuck_here hfs hff (by rw [htk]; exact hst) ?_
        obtain ⟨o1, x, q1, d1, o2, o3⟩ := atom d f f _ hfs hff hd hat
        obtain ⟨q2, o4, o5⟩ := rcat1_err (l := l) (acc := acc) (x := x) hs (by omega) o2 o1
        refine ⟨severalT 5 (acc ++ [x]), q2, d1, o4, ?_⟩
        refine Ev.congr (fun k => by rw [if_neg hc.1, if_neg hc.2.1, if_neg hc.2.2.1, if_neg hc.2.2.2]) ?_
        refine Ev.step (fun k => rcat0_step k l _ acc) ?_
        refine Ev.congr (fun k => by rw [if_pos (show (rst s f 0 0 (d : Int)).2.2.1 = 0 from rfl)]) ?_
        refine Ev.bind o3 ?_
        rw [qex_res]
        exact o5
      cases t with
      | one c =>
        have hsn := rc_sign ht
        unfold isSign at hsn
        simp only [Bool.or_eq_true, beq_iff_eq] at hsn
        rcases hsn with ((((h1 | h1) | h1) | h1) | h1) | h1 <;> subst h1
        · exact go rfl (by decide)
        · exact go rfl (by decide)
        · exact go rfl (by decide)
        · exact stop rfl rfl (by decide)
        · exact stop rfl rfl (by decide)
        · exact stuck rfl rfl (by rw [aAtom, ht]; rfl) (by decide)
      | sym nm kd => exact go rfl (by simp only [Tk.rc]; split; decide; split <;> decide)
      | nest nm => exact go rfl (by simp [Tk.rc])
      | over nm => exact stop rfl (by simp [Tk.stuck, Tk.K, Tk.isOne]) (by simp [Tk.rc])
      | eof => exact stop rfl rfl (by decide)
      | bad => exact stuck rfl rfl (by rw [aAtom, ht]) (by decide)
    have cat0 : ∀ (d q f : Nat) acc r, q ≤ s.size → nx (L s) q = f → d ≤ 41 → acc.length ≤ f → Rs.and (aRep l (L s) (n + 1) d f) (fun x g => aCats l (L s) (n + 1) d (acc ++ [x]) g) = some r → OutR s d (fun k => rcat0 k acc l (rst s q 0 0 d)) r := by
      intro d q f acc r hq hf hd ha h
      have hfs : f ≤ s.size := by rw [← hf]; exact nxF q hq
      refine OutR.step (fun k => rcat0_step k l _ acc) ?_
      refine OutR.congr (fun k => by rw [if_pos (show (rst s q 0 0 (d : Int)).2.2.1 = 0 from rfl)]) ?_
      rw [aRep] at h
      cases hA : aAtom l (L s) n d f with
      | none => rw [hA] at h; simp [Rs.and] at h
      | some ra =>
        rw [hA] at h
        cases ra with
        | err e p =>
          have h : some (Rs.err e p) = some r := h
          injection h with h; subst h
          obtain ⟨o1, x, q1, d1, o2, o3⟩ := ih.atom d q f _ hq hf hd hA
          obtain ⟨q2, o4, o5⟩ := rcat1_err (l := l) (acc := acc) (x := x) hs (by omega) o2 o1
          exact ⟨o1, _, q2, d1, o4, Ev.bind o3 (by rw [qex_res]; exact o5)⟩
        | ok x g =>
          obtain ⟨q1, o1, o2, o3⟩ := ih.atom d q f _ hq hf hd hA
          have hbd := hb.atom d f x g (by rw [hL]; exact hfs) hA
          have := tsize_eq x
          refine OutR.bind o3 ?_
          rw [qex_res]
          exact rstars hs d acc hd (fun y q f r a1 a2 a3 a4 => cats d q f _ r a1 a2 hd (by simp) (by rw [List.length_append, List.length_singleton]; exact a3) a4) n x q1 g r o1 o2 (by omega) h
    have cat : ∀ (d q f : Nat) r, q ≤ s.size → nx (L s) q = f → d ≤ 41 → aCat l (L s) (n + 1) d f = some r → OutR s d (fun k => rcatW k l (rst s q 0 0 d)) r := by
      intro d q f r hq hf hd h
      rw [aCat] at h
      refine OutR.step (fun k => rcat_step k l _) ?_
      exact ih.cat0 d q f [] r hq hf hd (by simp) (by simpa using h)
    have or0 : ∀ (d q f : Nat) acc r, q ≤ s.size → nx (L s) q = f → d ≤ 41 → acc.length ≤ f → Rs.and (aCat l (L s) (n + 1) d f) (fun x g => aOrs l (L s) (n + 1) d (acc ++ [x]) g) = some r → OutR s d (fun k => ror0 k acc l (rst s q 0 0 d)) r := by
      intro d q f acc r hq hf hd ha h
      have hfs : f ≤ s.size := by rw [← hf]; exact nxF q hq
      have hacc : acc.length < 2932031007402 := by omega
      refine OutR.step (fun k => ror0_step k l _ acc) ?_
      refine OutR.congr (fun k => by rw [if_pos (show (rst s q 0 0 (d : Int)).2.2.1 = 0 from rfl)]) ?_
      have erred : ∀ (x : S28) (q1 : Nat) (e p d1 : Int), q1 ≤ s.size → e ≠ 0 → ∃ q2, q2 ≤ s.size ∧ Ev (fun k => if acc.length < 2932031007402 then (signW k l (qres x (rst s q1 e p d1)).2.2.2.2).bind fun z => if z.1 = 124 then (if z.2.2.2.2.2.2.1 = 0 then ror0 k (acc ++ [qex (qres x (rst s q1 e p d1))]) l (advS z.2.2.2.2 1) else fin 6 (acc ++ [qex (qres x (rst s q1 e p d1))]) z.2.2.2.2) else fin 6 (acc ++ [qex (qres x (rst s q1 e p d1))]) z.2.2.2.2 else none) (qres (severalT 6 (acc ++ [x])) (rst s q2 e p d1)) := by
        intro x q1 e p d1 h1 he
        refine ⟨nx (L s) q1, nxF q1 h1, ?_⟩
        refine Ev.congr (fun k => by rw [if_pos hacc, qex_res]) ?_
        refine Ev.bind (signW_st hs q1 h1 e p d1) ?_
        rw [sg_s]
        refine Ev.congr (f := fun _ => fin 6 (acc ++ [x]) (rst s (nx (L s) q1) e p d1)) (fun k => ?_) (fin_ev _ _ _)
        by_cases hc : (sg s (nx (L s) q1) e p d1).1 = 124
        · rw [if_pos hc, if_neg (show ¬ (rst s (nx (L s) q1) e p d1).2.2.1 = 0 from he)]
        · rw [if_neg hc]
      rcases Rs.and_cases h with ⟨x, g, h1, h2⟩ | ⟨e, p, h1, rfl⟩
      · obtain ⟨⟨o1, og⟩, o2⟩ := cat d q f _ hq hf hd h1
        have hbd := hb1.cat d f x g (by rw [hL]; exact hfs) h1
        have := tsize_eq x
        rw [aOrs] at h2
        by_cases hst : (tkn (L s) g).stuck = true
        · rw [if_pos hst] at o2
          obtain ⟨y, q1, d1, o3, o4⟩ := o2
          have hn : ¬ (tokAt ((L s).drop g)).1.isOne 124 = true := by
            have hst : (tokAt ((L s).drop g)).1.stuck = true := hst
            intro h3
            cases hq3 : (tokAt ((L s).drop g)).1 with
            | one b =>
              rw [hq3] at hst h3
              simp only [Tk.isOne, beq_iff_eq] at h3
              subst h3
              revert hst; decide
            | _ => rw [hq3] at h3; cases h3
          rw [if_neg hn] at h2
          injection h2 with h2; subst h2
          obtain ⟨q2, o5, o6⟩ := erred y q1 1 (g : Int) d1 o3 (by decide)
          exact stuck_here o1 og hst ⟨_, q2, d1, o5, Ev.bind o4 o6⟩
        · rw [if_neg hst] at o2
          have hst2 : (tkn (L s) g).stuck = false := by simpa using hst
          refine OutR.bind o2 ?_
          refine OutR.congr (fun k => by rw [if_pos hacc, qex_res]) ?_
          have hs2 := signW_st (l := l) hs g o1 0 0 (d : Int)
          rw [og] at hs2
          refine OutR.bind hs2 ?_
          obtain ⟨t2, m2, ht2⟩ : ∃ t m, tokAt ((L s).drop g) = (t, m) := ⟨_, _, rfl⟩
          rw [sg_c ht2, sg_s]
          by_cases hq9 : (tokAt ((L s).drop g)).1.isOne 124 = true
          · have e2 := one_step hq9 (by rw [hL]; exact o1)
            have hle2 := tok_le (L s) g (by rw [hL]; exact o1)
            rw [e2.2.2, hL] at hle2
            have hle2 : g + 1 ≤ s.size := hle2
            rw [if_pos hq9] at h2
            have ht3 : t2 = .one 124 := by rw [e2.2.2] at ht2; exact (Prod.mk.inj ht2).1.symm
            refine OutR.congr (fun k => by rw [if_pos (show t2.rc = 124 by rw [ht3]; rfl), if_pos (show (rst s g 0 0 (d : Int)).2.2.1 = 0 from rfl), show advS (rst s g 0 0 (d : Int)) 1 = rst s (g + 1) 0 0 (d : Int) from adv_st (n := 1) (le_big hle2 hs)]) ?_
            exact ih.or0 d (g + 1) _ (acc ++ [x]) r hle2 rfl hd (by have := nx_ge (L s) (g + 1); rw [List.length_append, List.length_singleton]; omega) h2
          · rw [if_neg hq9] at h2
            injection h2 with h2; subst h2
            rw [ht2] at hq9
            have hc : ¬ t2.rc = 124 := by
              cases t2 with
              | one b => exact one_ne (m := 124) (n := 124) rfl (fun h3 => hq9 (by simp [Tk.isOne, h3]))
              | sym nm k => simp only [Tk.rc]; split; decide; split <;> decide
              | _ => simp [Tk.rc]
            refine ok_here o1 og hst2 ?_
            exact Ev.congr (f := fun _ => fin 6 (acc ++ [x]) (rst s g 0 0 (d : Int))) (fun k => by rw [if_neg hc]) (fin_ev _ _ _)
      · obtain ⟨o1, x, q1, d1, o2, o3⟩ := cat d q f _ hq hf hd h1
        obtain ⟨q2, o5, o6⟩ := erred x q1 e (p : Int) d1 o2 o1
        exact ⟨o1, _, q2, d1, o5, Ev.bind o3 o6⟩
    refine ⟨atom, cats, cat0, cat, or0, ?_⟩
    intro d q f r hq hf hd h
    rw [aOr] at h
    refine OutR.step (fun k => ror_step k l _) ?_
    exact ih.or0 d q f [] r hq hf hd (by simp) (by simpa using h)
def rparseJ (k : Nat) (l : List S56) (σ : RS) (x : S28) : Option (Int × Int × Int × List S28 × Int × Int) := canopyref5_Parse.j0 k l l σ.1 σ.2.1 σ.2.2.1 σ.2.2.2.1 σ.2.2.2.2 x.f0 x.f1 x.f2 x.f3
theorem rparseJ_err {σ : RS} (x : S28) (h : σ.2.2.1 ≠ 0) : Ev (fun k => rparseJ k l σ x) (six (⟨0, 0, 0, []⟩, σ.2.2.2.1, σ.2.2.1)) := by
  refine Ev.step (fun k => rfl) ?_
  refine Ev.congr (f := fun _ => some (six (⟨0, 0, 0, []⟩, σ.2.2.2.1, σ.2.2.1))) (fun k => ?_) (Ev.now _)
  unfold rparseJ
  rw [canopyref5_Parse.j0, if_neg h]
  rfl
theorem rparseJ_ok {σ : RS} {x : S28} (hg : kindsB l = true) (h : σ.2.2.1 = 0) (hx : tsize x ≤ 1000000000) : Ev (fun k => rparseJ k l σ x) (six (if treeErr l x = 0 then (x, 0, 0) else (⟨0, 0, 0, []⟩, 0, treeErr l x))) := by
  refine Ev.step (fun k => rfl) ?_
  refine Ev.congr (f := fun k => (canopyref5_Check.f k l x.f0 x.f1 x.f2 x.f3).bind fun t => if t = 0 then some (x.f0, x.f1, x.f2, x.f3, 0, 0) else some (0, 0, 0, [], 0, t)) (fun k => ?_) ?_
  · unfold rparseJ
    rw [canopyref5_Parse.j0, if_pos h]
  · refine Ev.bind (rcheck_ev l hg x hx) ?_
    by_cases hq : treeErr l x = 0
    · rw [if_pos hq, hq]; exact Ev.now _
    · rw [if_neg hq, if_neg hq]
      exact Ev.now _
theorem rparse_sim (hs : s.size ≤ 2000) (hl : l.length ≤ 1000) (hg : kindsB l = true) {n : Nat} {r : Rs} (h : aOr l (L s) n 0 (nx (L s) 0) = some r) : Ev (fun k => canopyref5_Parse.f k l s) (six (tell l (L s) r)) := by
  have hL : (L s).length = s.size := L_len s
  have o := (rsim hs hl n).or 0 0 _ r (by omega) rfl (by omega) h
  unfold canopyref5_Parse.f
  refine Ev.congr (fun k => by rw [if_neg (show ¬ (s.size : Int) > 2000 by omega)]) ?_
  have erred : ∀ (x : S28) (q : Nat) (e p D : Int), q ≤ s.size → e ≠ 0 → Ev (fun k => rorW k l (rst s 0 0 0 0)) (qres x (rst s q e p D)) → Ev (fun k => (rorW k l (rst s 0 0 0 0)).bind fun r => (signW k l r.2.2.2.2).bind fun z => if z.1 = 0 then rparseJ k l z.2.2.2.2 (qex r) else rparseJ k l (failS z.2.2.2.2 1 z.2.2.2.2.2.1) (qex r)) (six (⟨0, 0, 0, []⟩, p, e)) := by
    intro x q e p D hq he hE
    refine Ev.bind hE ?_
    refine Ev.bind (signW_st hs q hq e p D) ?_
    rw [sg_s, failS_no he, qex_res]
    refine Ev.congr (f := fun k => rparseJ k l (rst s (nx (L s) q) e p D) x) (fun k => ?_) (rparseJ_err (l := l) (σ := rst s (nx (L s) q) e p D) x he)
    split <;> rfl
  have body : Ev (fun k => (rorW k l (rst s 0 0 0 0)).bind fun r => (signW k l r.2.2.2.2).bind fun z => if z.1 = 0 then rparseJ k l z.2.2.2.2 (qex r) else rparseJ k l (failS z.2.2.2.2 1 z.2.2.2.2.2.1) (qex r)) (six (tell l (L s) r)) := by
    cases r with
    | err e p =>
      obtain ⟨o1, x, q, D, o2, o3⟩ := o
      exact erred x q e (p : Int) D o2 o1 o3
    | ok x g =>
      obtain ⟨⟨o1, og⟩, o2⟩ := o
      have hb := (bnd l (L s) n).or _ _ _ _ (nx_le (L s) 0 (by omega)) h
      obtain ⟨t, m, ht⟩ : ∃ t m, tokAt ((L s).drop g) = (t, m) := ⟨_, _, rfl⟩
      have et : tell l (L s) (.ok x g) = if (tokAt ((L s).drop g)).1.isEof then (if treeErr l x = 0 then (x, 0, 0) else (⟨0, 0, 0, []⟩, 0, treeErr l x)) else (⟨0, 0, 0, []⟩, (g : Int), 1) := rfl
      rw [et, ht]
      by_cases hst : (tkn (L s) g).stuck = true
      · rw [if_pos hst] at o2
        obtain ⟨y, q, D, o3, o4⟩ := o2
        have hst : (tokAt ((L s).drop g)).1.stuck = true := hst
        rw [ht] at hst
        have he : ¬ t.isEof = true := by
          cases t with
          | eof => exact absurd hst (by simp [Tk.stuck, Tk.K, Tk.isOne])
          | _ => simp [Tk.isEof]
        rw [if_neg he]
        exact erred y q 1 (g : Int) D o3 (by decide) o4
      · rw [if_neg hst] at o2
        refine Ev.bind o2 ?_
        have hs2 := signW_st (l := l) hs g o1 0 0 ((0 : Nat) : Int)
        rw [og] at hs2
        refine Ev.bind hs2 ?_
        rw [sg_s, sg_c ht, qex_res]
        by_cases hc : t.rc = 0
        · have he : t.isEof = true := by
            cases t with
            | eof => rfl
            | one c =>
              have h1 := rc_sign ht
              have : c = 0 := UInt8.toNat_inj.1 (by simp only [Tk.rc] at hc; simpa using (by omega : c.toNat = 0))
              rw [this] at h1
              exact absurd h1 (by decide)
            | sym nm k => exfalso; simp only [Tk.rc] at hc; split at hc; exact absurd hc (by decide); split at hc <;> exact absurd hc (by decide)
            | _ => exact absurd hc (by simp [Tk.rc])
          rw [if_pos he]
          exact Ev.congr (fun k => by rw [if_pos hc]) (rparseJ_ok hg rfl (by omega))
        · have he : ¬ t.isEof = true := by
            cases t with
            | eof => exact absurd rfl hc
            | _ => simp [Tk.isEof]
          rw [if_neg he]
          have hj := rparseJ_err (l := l) (σ := rst s g 1 (g : Int) ((0 : Nat) : Int)) x (by show (1 : Int) ≠ 0; decide)
          exact Ev.congr (fun k => by rw [if_neg hc]; rfl) hj
  refine Ev.congr (fun k => ?_) body
  simp only [fail_eq, Option.bind_some]
  rfl
theorem rparse_long (h : 2000 < s.size) : ∀ k, canopyref5_Parse.f k l s = some (six (⟨0, 0, 0, []⟩, 0, 2)) := fun k => by
  unfold canopyref5_Parse.f
  rw [if_pos (by omega)]
  rfl
/-- Both readers come to the same at any text. -/
theorem both_parse (l : List S56) (hg : goodB l = true) (s : ByteArray) : ∃ (x : S28) (at_ e : Int), tsize x ≤ 1000000000 ∧ Ev (fun k => expr_Parse.f k l s) (six (x, at_, e)) ∧ Ev (fun k => canopyref5_Parse.f k l s) (six (x, at_, e)) := by
  have hgl := good_len hg
  by_cases hz : 2000 < s.size
  · exact ⟨⟨0, 0, 0, []⟩, 0, 2, by rw [tsize, tsizeL]; decide, ⟨0, fun k _ => parse_long hz k⟩, ⟨0, fun k _ => rparse_long hz k⟩⟩
  · obtain ⟨n, r, h⟩ := or_tot l (L s)
    have h1 := parse_sim (l := l) (s := s) (by omega) (by omega) h
    have h2 := rparse_sim (l := l) (s := s) (by omega) (by omega) (good_kinds hg) h
    refine ⟨(tell l (L s) r).1, (tell l (L s) r).2.1, (tell l (L s) r).2.2, ?_, h1, h2⟩
    cases r with
    | err e p => show tsize ⟨0, 0, 0, []⟩ ≤ _; rw [tsize, tsizeL]; decide
    | ok x g =>
      have hb := (bnd l (L s) n).or _ _ _ _ (nx_le (L s) 0 (by omega)) h
      rw [L_len] at hb
      have : tsize x ≤ 1000000000 := by omega
      unfold tell
      simp only
      split
      · split
        · exact this
        · show tsize ⟨0, 0, 0, []⟩ ≤ _; rw [tsize, tsizeL]; decide
      · show tsize ⟨0, 0, 0, []⟩ ≤ _; rw [tsize, tsizeL]; decide
end
end Go.Proofs.YtodbnnfiadcbaaaL
namespace Go.Proofs.Ytodbnnfiadcbaaa.Pure
open Go.RowKit Go.Proofs.Ytodbnnfiadcbaaa.P Go.Proofs.YtodbnnfiadcbaaaW.PrintWords Go.Proofs.YtodbnnfiadcbaaaW.PrintLast Go.Proofs.YtodbnnfiadcbaaaW.PrintMore Go.Proofs.YtodbnnfiadcbaaaL
theorem reads_l0 (l : List S56) (hg : goodB l = true) (rows : List ByteArray) (hr : rows.length ≤ 1000) : ∀ (d i : Nat), i + d = rows.length → Ev (fun k => canopylaw5_ExprReads.l0 k l rows (i : Int)) true := by
  intro d
  induction d with
  | zero =>
    intro i hi
    refine Ev.step (fun k => rfl) ?_
    exact Ev.congr (f := fun _ => some true) (fun k => by rw [canopylaw5_ExprReads.l0, if_neg (by omega)]) (Ev.now _)
  | succ d ih =>
    intro i hi
    obtain ⟨x, a, e, hx, h1, h2⟩ := both_parse l hg (rdOf ByteArray.empty rows (i : Int))
    refine Ev.step (fun k => rfl) ?_
    refine Ev.congr (fun k => by rw [canopylaw5_ExprReads.l0, if_pos (by omega), if_pos (by omega)]) ?_
    refine Ev.bind h1 (Ev.bind h2 ?_)
    refine Ev.congr (fun k => by rw [if_pos rfl, if_pos rfl]) ?_
    refine Ev.bind (same_ev _ x (Nat.le_refl _) hx) ?_
    refine Ev.congr (fun k => by rw [if_pos rfl, wrap_suc i rows.length (by omega) (Nat.le_trans hr (by decide))]) ?_
    exact ih (i + 1) (by omega)
theorem turned_some (s : ByteArray) (hs : s.size ≤ 100000) (a b : Int) : ∃ t, canopylaw5_turned.f s a b = some t := by
  unfold canopylaw5_turned.f
  by_cases h : s.toList = []
  · exact ⟨s, by rw [if_pos h]⟩
  · have hz : 0 < s.size := by
      rcases Nat.eq_zero_or_pos s.size with h0 | h0
      · exfalso; apply h
        rw [toL]
        exact List.length_eq_zero_iff.mp (by rw [L_len]; exact h0)
      · exact h0
    rw [if_neg h, within_eq _ _ (by omega) (by omega), Option.bind_some, if_pos (Int.emod_nonneg _ (by omega)), if_pos (Int.emod_lt_of_pos _ (by omega))]
    exact ⟨_, rfl⟩
def lays : List ByteArray := [(⟨#[40]⟩ : ByteArray), (⟨#[41]⟩ : ByteArray), (⟨#[42]⟩ : ByteArray), (⟨#[124]⟩ : ByteArray), (⟨#[32]⟩ : ByteArray), (⟨#[48]⟩ : ByteArray), (⟨#[49]⟩ : ByteArray), (⟨#[98]⟩ : ByteArray), (⟨#[60, 97, 62]⟩ : ByteArray), (⟨#[60, 47, 97, 62]⟩ : ByteArray), (⟨#[60, 97, 91]⟩ : ByteArray), (⟨#[93, 97, 62]⟩ : ByteArray), (⟨#[60]⟩ : ByteArray), (⟨#[93]⟩ : ByteArray), (⟨#[122, 122]⟩ : ByteArray), (⟨#[60, 122, 122, 62]⟩ : ByteArray), (⟨#[97, 98, 99, 100, 101, 102, 103, 104, 105]⟩ : ByteArray)]
theorem lays_small : lays.all (fun x => decide (x.size ≤ 9)) = true := by decide +kernel
theorem lay_size (i : Int) : (rdOf ByteArray.empty lays i).size ≤ 9 := by
  unfold rdOf
  rw [List.getD_eq_getElem?_getD]
  cases h : lays[i.toNat]? with
  | none => exact Nat.zero_le _
  | some x => exact of_decide_eq_true (List.all_eq_true.mp lays_small x (List.mem_of_getElem? h))
theorem ExprReads : canopylaw5_ExprReads.Pure := by
  intro n ns at_ by_ cut more raw _ hlen hlen2 _ _ _ _ _ _
  obtain ⟨l, hl, hg⟩ := syms_good n ns
  have hgl := good_len hg
  obtain ⟨e, ⟨he, hf⟩, hE⟩ := Make_ev l ns hgl.1 (by omega) (good_kinds hg) (by omega) 4 (by decide)
  refine Ev.rounds (r := true) ?_
  unfold canopylaw5_ExprReads.f
  refine Ev.bind known_ev ?_
  refine Ev.congr (fun k => by rw [if_pos rfl]) ?_
  have skip : Ev (fun k => canopylaw5_ExprReads.j0 k n ns at_ by_ cut more raw true) true := by
    refine Ev.step (fun k => rfl) ?_
    exact Ev.congr (f := fun _ => some true) (fun k => by rw [canopylaw5_ExprReads.j0, if_pos rfl]) (Ev.now _)
  by_cases hm : (more.size : Int) > 30
  · exact Ev.congr (fun k => by rw [if_pos hm]) skip
  refine Ev.congr (fun k => by rw [if_neg hm]) ?_
  by_cases hr : (raw.size : Int) > 100
  · rw [decide_eq_true hr]; exact skip
  rw [decide_eq_false hr]
  refine Ev.step (fun k => rfl) ?_
  refine Ev.congr (fun k => by rw [canopylaw5_ExprReads.j0, if_neg (by decide), hl, Option.bind_some]) ?_
  refine Ev.bind hE ?_
  refine Ev.bind (rtext_ev hg _ e (Nat.le_refl _) (Nat.le_trans he (by decide)) hf) ?_
  have hts := textT_len (good_names hg) e
  have he2 : tsize e ≤ 256 := he
  have hsz : (B (textT l e)).size ≤ 10240 := by rw [B_size]; omega
  generalize B (textT l e) = S at hsz
  have w1 : wrap64 ((S.size : Int) + 1) = ((S.size + 1 : Nat) : Int) := wrap_add S.size 1 _ rfl (Nat.le_trans (Nat.add_le_add_right hsz 1) (by decide))
  obtain ⟨t, ht⟩ := turned_some S (Nat.le_trans hsz (by decide)) at_ by_
  refine Ev.congr (fun k => by rw [w1, within_eq _ _ (by omega) (by omega), Option.bind_some, Option.bind_some, within_eq _ _ (by decide) (by decide), Option.bind_some, ht, Option.bind_some]) ?_
  have c0 := Int.emod_nonneg cut (show ((S.size + 1 : Nat) : Int) ≠ 0 by omega)
  have c1 := Int.emod_lt_of_pos cut (show (0 : Int) < ((S.size + 1 : Nat) : Int) by omega)
  have a0 := Int.emod_nonneg at_ (show (17 : Int) ≠ 0 by decide)
  have a1 := Int.emod_lt_of_pos at_ (show (0 : Int) < 17 by decide)
  generalize cut % ((S.size + 1 : Nat) : Int) = c at c0 c1
  have hly := lay_size (at_ % 17)
  unfold lays at hly
  show Ev (fun k => if 0 ≤ at_ % 17 then if at_ % 17 < (lays.length : Int) then _ else _ else _) true
  have e2 : (S.extract 0 c.toNat).size = c.toNat := by rw [ByteArray.size_extract]; omega
  have e3 : (S.extract c.toNat S.size).size = S.size - c.toNat := by rw [ByteArray.size_extract]; omega
  have hmore : more.size ≤ 30 := by omega
  have hraw : raw.size ≤ 100 := by omega
  refine Ev.congr (fun k => by
    rw [if_pos a0, if_pos (show at_ % 17 < (lays.length : Int) from a1), if_pos c0, if_pos (by omega), fit_of (by rw [e2]; omega), fit_of (by rw [ByteArray.size_append, e2, e3]; omega), fit_of (by rw [e2]; omega), fit_of (by rw [ByteArray.size_append, e2, e3]; omega), fit_of (by omega), fit_of (by omega), fit_of (by omega), fit_of (by rw [ByteArray.size_append]; show 1 + S.size + 1 ≤ _; omega), fit_of (by omega), fit_of (by rw [ByteArray.size_append]; show S.size + 1 + S.size ≤ _; omega), fit_of (by omega), fit_of (by rw [ByteArray.size_append]; show 3 + S.size + 3 ≤ _; omega), fit_of (by omega), fit_of (by omega)]) ?_
  exact reads_l0 l hg _ (by simp only [List.length_cons, List.length_nil]; omega) 12 0 (by simp only [List.length_cons, List.length_nil])
end Go.Proofs.Ytodbnnfiadcbaaa.Pure
