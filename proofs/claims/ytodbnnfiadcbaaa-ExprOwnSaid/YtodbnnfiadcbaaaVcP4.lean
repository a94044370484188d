/- Plain laws: no program in sight. -/
import Derived.Test.YtodbnnfiadcbaaaVcP1
set_option linter.unusedVariables false
set_option linter.unusedSimpArgs false
set_option linter.unusedSectionVars false
namespace Go.Proofs.YtodbnnfiadcbaaaL
open Go.RowKit Go.Proofs.Ytodbnnfiadcbaaa.P Go.Proofs.YtodbnnfiadcbaaaW.PrintWords Go.Proofs.YtodbnnfiadcbaaaW.PrintLast Go.Proofs.YtodbnnfiadcbaaaW.PrintMore
set_option linter.unusedSimpArgs false
set_option linter.unusedVariables false
/-! ### bounds -/
theorem tok_cases (t : List UInt8) : (tokAt t).1 = .eof ∨ (tokAt t).1 = .bad ∨ (∃ c, tokAt t = (.one c, 1)) ∨ (1 ≤ (tokAt t).2 ∧ ∀ c, (tokAt t).1.isOne c = false) := by
 cases t with
 | nil => exact .inl rfl
 | cons c t =>
  rw [tokAt]
  unfold tokLt
  repeat' split
  all_goals first
   | exact .inr (.inr (.inl ⟨_, rfl⟩))
   | exact .inr (.inl rfl)
   | (refine .inr (.inr (.inr ⟨?_, fun _ => rfl⟩)); first | (simp only; omega) | (rename_i h; simp [okN] at h; simp only; omega))
theorem tok_pos {t : List UInt8} (h : (tokAt t).1.isEof = false) (h2 : (tokAt t).1.K ≠ 2) : 1 ≤ (tokAt t).2 := by
 rcases tok_cases t with e | e | ⟨c, e⟩ | e
 ·rw [e] at h; cases h
 ·rw [e] at h2; exact absurd rfl h2
 ·rw [e]; exact Nat.le_refl _
 ·exact e.1
theorem nx_ge (s : List UInt8) (q : Nat) : q ≤ nx s q := Nat.le_add_right _ _
theorem nx_step {s : List UInt8} {f m : Nat} {t : Tk} (h : tokAt (s.drop f) = (t, m)) (h1 : t.isEof = false) (h2 : t.K ≠ 2) (hf : f ≤ s.length) : f < nx s (f + m) ∧ nx s (f + m) ≤ s.length := by
 have a := tok_pos (t := s.drop f) (by rw [h]; exact h1) (by rw [h]; exact h2)
 have b := tok_le s f hf
 rw [h] at a b
 have c := nx_ge s (f + m)
 have d := nx_le s (f + m) b
 simp only at a
 exact ⟨by omega, d⟩
theorem one_step {s : List UInt8} {f : Nat} {c : UInt8} (h : (tokAt (s.drop f)).1.isOne c = true) (hf : f ≤ s.length) : f < nx s (f + 1) ∧ nx s (f + 1) ≤ s.length ∧ tokAt (s.drop f) = (.one c, 1) := by
 have key : ∀ t : List UInt8, (tokAt t).1.isOne c = true → tokAt t = (.one c, 1) := by
  intro t ht
  rcases tok_cases t with e | e | ⟨b, e⟩ | e
  ·rw [e] at ht; cases ht
  ·rw [e] at ht; cases ht
  ·rw [e] at ht ⊢
   simp only [Tk.isOne, beq_iff_eq] at ht
   rw [ht]
  ·rw [e.2 c] at ht; cases ht
 have e := key _ h
 have := nx_step e rfl (by simp [Tk.K]) hf
 exact ⟨this.1, this.2, e⟩
theorem several_size {k : Int} {xs : List S28} {B0 : Nat} (h0 : xs ≠ []) (h : tsizeL xs + xs.length ≤ B0) : tsize (severalT k xs) + 1 ≤ B0 := by
 unfold severalT
 split
 ·rw [tsizeL, tsizeL] at h
  simpa using h
 ·rename_i h1
  cases xs with
  | nil => exact absurd rfl h0
  | cons x xs =>
   cases xs with
   | nil => exact absurd rfl (h1 x)
   | cons y ys =>
    rw [tsize]
    simp only [List.length_cons] at h
    omega
theorem tsizeL_snoc (x : S28) : ∀ xs : List S28, tsizeL (xs ++ [x]) = tsizeL xs + tsize x
 | [] => by simp [tsizeL]
 | y :: ys => by rw [List.cons_append, tsizeL, tsizeL, tsizeL_snoc x ys]; omega
theorem Rs.and_ok {r : Option Rs} {g : S28 → Nat → Option Rs} {v : S28} {p : Nat} (h : Rs.and r g = some (.ok v p)) : ∃ x q, r = some (.ok x q) ∧ g x q = some (.ok v p) := by
 cases r with
 | none => simp [Rs.and] at h
 | some r =>
  cases r with
  | ok x q => exact ⟨x, q, rfl, h⟩
  | err e q => simp [Rs.and] at h
section
variable (l : List S56) (s : List UInt8)
structure Bnd (n : Nat) : Prop where
 atom : ∀ d f v g, f ≤ s.length → aAtom l s n d f = some (.ok v g) → tsize v + 1 + 2 * f ≤ 2 * g ∧ g ≤ s.length
 rep : ∀ d f v g, f ≤ s.length → aRep l s n d f = some (.ok v g) → tsize v + 1 + 2 * f ≤ 2 * g ∧ g ≤ s.length
 cat : ∀ d f v g, f ≤ s.length → aCat l s n d f = some (.ok v g) → tsize v + 1 + 2 * f ≤ 2 * g ∧ g ≤ s.length
 or : ∀ d f v g, f ≤ s.length → aOr l s n d f = some (.ok v g) → tsize v + 1 + 2 * f ≤ 2 * g ∧ g ≤ s.length
 stars : ∀ f0 x f v g, f ≤ s.length → tsize x + 1 + 2 * f0 ≤ 2 * f → aStars l s n x f = some (.ok v g) → tsize v + 1 + 2 * f0 ≤ 2 * g ∧ g ≤ s.length
 cats : ∀ f0 d acc f v g, f ≤ s.length → acc ≠ [] → tsizeL acc + acc.length + 2 * f0 ≤ 2 * f → aCats l s n d acc f = some (.ok v g) → tsize v + 1 + 2 * f0 ≤ 2 * g ∧ g ≤ s.length
 ors : ∀ f0 d acc f v g, f ≤ s.length → acc ≠ [] → tsizeL acc + acc.length + 2 * f0 ≤ 2 * f → aOrs l s n d acc f = some (.ok v g) → tsize v + 1 + 2 * f0 ≤ 2 * g ∧ g ≤ s.length
theorem bnd : ∀ n, Bnd l s n
 | 0 => by constructor <;> intros <;> simp_all [aAtom, aRep, aCat, aOr, aStars, aCats, aOrs]
 | n + 1 => by
  have ih := bnd n
  constructor
  ·intro d f v g hf h
   rw [aAtom] at h
   split at h
   ·rename_i c m ht
    split at h
    ·rename_i hc
     subst hc
     injection h with h; injection h with h1 h2
     subst h1; subst h2
     have := one_step (s := s) (f := f) (c := 48) (by rw [ht]; rfl) hf
     rw [tsize, tsizeL]; omega
    ·split at h
     ·rename_i _ hc
      subst hc
      injection h with h; injection h with h1 h2
      subst h1; subst h2
      have := one_step (s := s) (f := f) (c := 49) (by rw [ht]; rfl) hf
      rw [tsize, tsizeL]; omega
     ·split at h
      ·rename_i _ _ hc
       subst hc
       split at h
       ·simp at h
       ·obtain ⟨x, q, h1, h2⟩ := Rs.and_ok h
        have a := one_step (s := s) (f := f) (c := 40) (by rw [ht]; rfl) hf
        have b := ih.or _ _ _ _ a.2.1 h1
        split at h2
        ·rename_i hq
         injection h2 with h2; injection h2 with h3 h4
         subst h3; subst h4
         have e := one_step hq b.2
         omega
        ·simp at h2
      ·simp at h
   ·rename_i nm k m ht
    split at h
    ·injection h with h; injection h with h1 h2
     subst h1; subst h2
     have := nx_step ht rfl (by simp [Tk.K]) hf
     rw [tsize, tsizeL]; omega
    ·simp at h
   ·rename_i nm m ht
    split at h
    ·simp at h
    ·split at h
     ·simp at h
     ·obtain ⟨x, q, h1, h2⟩ := Rs.and_ok h
      have a := nx_step ht rfl (by simp [Tk.K]) hf
      have b := ih.or _ _ _ _ a.2 h1
      split at h2
      ·rename_i nm2 m2 ht2
       split at h2
       ·injection h2 with h2; injection h2 with h3 h4
        subst h3; subst h4
        have e := nx_step ht2 rfl (by simp [Tk.K]) b.2
        rw [tsize, tsizeL, tsizeL]; omega
       ·simp at h2
      ·simp at h2
   ·simp at h
  ·intro d f v g hf h
   rw [aRep] at h
   obtain ⟨x, q, h1, h2⟩ := Rs.and_ok h
   have a := ih.atom _ _ _ _ hf h1
   exact ih.stars f x q v g a.2 a.1 h2
  ·intro d f v g hf h
   rw [aCat] at h
   obtain ⟨x, q, h1, h2⟩ := Rs.and_ok h
   have a := ih.rep _ _ _ _ hf h1
   exact ih.cats f d [x] q v g a.2 (by simp) (by rw [tsizeL, tsizeL]; simp only [List.length_singleton]; omega) h2
  ·intro d f v g hf h
   rw [aOr] at h
   obtain ⟨x, q, h1, h2⟩ := Rs.and_ok h
   have a := ih.cat _ _ _ _ hf h1
   exact ih.ors f d [x] q v g a.2 (by simp) (by rw [tsizeL, tsizeL]; simp only [List.length_singleton]; omega) h2
  ·intro f0 x f v g hf h0 h
   rw [aStars] at h
   split at h
   ·rename_i hq
    have a := one_step hq hf
    exact ih.stars f0 _ _ v g a.2.1 (by rw [tsize, tsizeL, tsizeL]; omega) h
   ·injection h with h; injection h with h1 h2
    subst h1; subst h2
    exact ⟨h0, hf⟩
  ·intro f0 d acc f v g hf hne h0 h
   rw [aCats] at h
   split at h
   ·obtain ⟨x, q, h1, h2⟩ := Rs.and_ok h
    have a := ih.rep _ _ _ _ hf h1
    exact ih.cats f0 d _ q v g a.2 (by simp) (by rw [tsizeL_snoc, List.length_append, List.length_singleton]; omega) h2
   ·injection h with h; injection h with h1 h2
    subst h1; subst h2
    have := several_size (k := 5) (B0 := 2 * f - 2 * f0) hne (by omega)
    have : 1 ≤ tsizeL acc := by
     cases acc with
     | nil => exact absurd rfl hne
     | cons x xs => rw [tsizeL, tsize_eq]; omega
    omega
  ·intro f0 d acc f v g hf hne h0 h
   rw [aOrs] at h
   split at h
   ·rename_i hq
    have b := one_step hq hf
    obtain ⟨x, q, h1, h2⟩ := Rs.and_ok h
    have a := ih.cat _ _ _ _ b.2.1 h1
    exact ih.ors f0 d _ q v g a.2 (by simp) (by rw [tsizeL_snoc, List.length_append, List.length_singleton]; omega) h2
   ·injection h with h; injection h with h1 h2
    subst h1; subst h2
    have := several_size (k := 6) (B0 := 2 * f - 2 * f0) hne (by omega)
    have : 1 ≤ tsizeL acc := by
     cases acc with
     | nil => exact absurd rfl hne
     | cons x xs => rw [tsizeL, tsize_eq]; omega
    omega
end
/-! ### rounds -/
abbrev PR := Int × Int × Int × List S28 × PS
def nextW (k : Nat) (l : List S56) (σ : PS) : Option PS := expr_parser_next.f k l σ.1 σ.2.1 σ.2.2.1 σ.2.2.2.1 σ.2.2.2.2.1 σ.2.2.2.2.2.1 σ.2.2.2.2.2.2.1 σ.2.2.2.2.2.2.2.1 σ.2.2.2.2.2.2.2.2.1 σ.2.2.2.2.2.2.2.2.2
def withinW (k : Nat) (l : List S56) (σ : PS) : Option PR := expr_parser_within.f k l σ.1 σ.2.1 σ.2.2.1 σ.2.2.2.1 σ.2.2.2.2.1 σ.2.2.2.2.2.1 σ.2.2.2.2.2.2.1 σ.2.2.2.2.2.2.2.1 σ.2.2.2.2.2.2.2.2.1 σ.2.2.2.2.2.2.2.2.2
def within0W (k : Nat) (l : List S56) (σ : PS) : Option PR := expr_parser_within.j0 k l σ.1 σ.2.1 σ.2.2.1 σ.2.2.2.1 σ.2.2.2.2.1 σ.2.2.2.2.2.1 σ.2.2.2.2.2.2.1 σ.2.2.2.2.2.2.2.1 σ.2.2.2.2.2.2.2.2.1 σ.2.2.2.2.2.2.2.2.2
def atomW (k : Nat) (l : List S56) (σ : PS) : Option PR := expr_parser_atom.f k l σ.1 σ.2.1 σ.2.2.1 σ.2.2.2.1 σ.2.2.2.2.1 σ.2.2.2.2.2.1 σ.2.2.2.2.2.2.1 σ.2.2.2.2.2.2.2.1 σ.2.2.2.2.2.2.2.2.1 σ.2.2.2.2.2.2.2.2.2
def repW (k : Nat) (l : List S56) (σ : PS) : Option PR := expr_parser_rep.f k l σ.1 σ.2.1 σ.2.2.1 σ.2.2.2.1 σ.2.2.2.2.1 σ.2.2.2.2.2.1 σ.2.2.2.2.2.2.1 σ.2.2.2.2.2.2.2.1 σ.2.2.2.2.2.2.2.2.1 σ.2.2.2.2.2.2.2.2.2
def catW (k : Nat) (l : List S56) (σ : PS) : Option PR := expr_parser_cat.f k l σ.1 σ.2.1 σ.2.2.1 σ.2.2.2.1 σ.2.2.2.2.1 σ.2.2.2.2.2.1 σ.2.2.2.2.2.2.1 σ.2.2.2.2.2.2.2.1 σ.2.2.2.2.2.2.2.2.1 σ.2.2.2.2.2.2.2.2.2
def orW (k : Nat) (l : List S56) (σ : PS) : Option PR := expr_parser_or.f k l σ.1 σ.2.1 σ.2.2.1 σ.2.2.2.1 σ.2.2.2.2.1 σ.2.2.2.2.2.1 σ.2.2.2.2.2.2.1 σ.2.2.2.2.2.2.2.1 σ.2.2.2.2.2.2.2.2.1 σ.2.2.2.2.2.2.2.2.2
def symW (k : Nat) (l : List S56) (σ : PS) : Option (Int × PS) := expr_parser_sym.f k l σ.1 σ.2.1 σ.2.2.1 σ.2.2.2.1 σ.2.2.2.2.1 σ.2.2.2.2.2.1 σ.2.2.2.2.2.2.1 σ.2.2.2.2.2.2.2.1 σ.2.2.2.2.2.2.2.2.1 σ.2.2.2.2.2.2.2.2.2
def repL (k : Nat) (l : List S56) (σ : PS) (x : S28) : Option PR := expr_parser_rep.l0 k l σ.1 σ.2.1 σ.2.2.1 σ.2.2.2.1 σ.2.2.2.2.1 σ.2.2.2.2.2.1 σ.2.2.2.2.2.2.1 σ.2.2.2.2.2.2.2.1 σ.2.2.2.2.2.2.2.2.1 σ.2.2.2.2.2.2.2.2.2 x.f0 x.f1 x.f2 x.f3
def catL (k : Nat) (acc : List S28) (l : List S56) (σ : PS) : Option PR := expr_parser_cat.l0 k acc l σ.1 σ.2.1 σ.2.2.1 σ.2.2.2.1 σ.2.2.2.2.1 σ.2.2.2.2.2.1 σ.2.2.2.2.2.2.1 σ.2.2.2.2.2.2.2.1 σ.2.2.2.2.2.2.2.2.1 σ.2.2.2.2.2.2.2.2.2
def orL (k : Nat) (acc : List S28) (l : List S56) (σ : PS) : Option PR := expr_parser_or.l0 k acc l σ.1 σ.2.1 σ.2.2.1 σ.2.2.2.1 σ.2.2.2.2.1 σ.2.2.2.2.2.1 σ.2.2.2.2.2.2.1 σ.2.2.2.2.2.2.2.1 σ.2.2.2.2.2.2.2.2.1 σ.2.2.2.2.2.2.2.2.2
def orJ (k : Nat) (acc : List S28) (b : Bool) (l : List S56) (σ : PS) : Option PR := expr_parser_or.j1 k acc b l σ.1 σ.2.1 σ.2.2.1 σ.2.2.2.1 σ.2.2.2.2.1 σ.2.2.2.2.2.1 σ.2.2.2.2.2.2.1 σ.2.2.2.2.2.2.2.1 σ.2.2.2.2.2.2.2.2.1 σ.2.2.2.2.2.2.2.2.2
def isB (σ : PS) (c : Int) : Bool := σ.2.2.2.1 == 3 && ((σ.2.2.2.2.1.toList == ([] : List UInt8) && (σ.2.2.2.2.2.1 == 0)) && (σ.2.2.2.2.2.2.1 == c))
def errOf (σ : PS) : Int := σ.2.2.2.2.2.2.2.2.1
def wrongS (σ : PS) (e : Int) : PS := if errOf σ = 0 then (σ.1, σ.2.1, σ.2.2.1, σ.2.2.2.1, σ.2.2.2.2.1, σ.2.2.2.2.2.1, σ.2.2.2.2.2.2.1, σ.2.2.2.2.2.2.2.1, e, σ.2.1) else σ
def deepBy (σ : PS) (i : Int) : PS := (σ.1, σ.2.1, σ.2.2.1, σ.2.2.2.1, σ.2.2.2.2.1, σ.2.2.2.2.2.1, σ.2.2.2.2.2.2.1, wrap64 (σ.2.2.2.2.2.2.2.1 + i), σ.2.2.2.2.2.2.2.2.1, σ.2.2.2.2.2.2.2.2.2)
def res (x : S28) (σ : PS) : PR := (x.f0, x.f1, x.f2, x.f3, σ)
def exOf (r : PR) : S28 := ⟨r.1, r.2.1, r.2.2.1, r.2.2.2.1⟩
def begB (σ : PS) : Bool := isB σ 48 || isB σ 49 || isB σ 40 || σ.2.2.2.1 == 4 || σ.2.2.2.1 == 5
theorem is_eq (l : List S56) (a : ByteArray) (b c d : Int) (e : ByteArray) (f g h i j ch : Int) : expr_parser_is.f l a b c d e f g h i j ch = some (isB (a, b, c, d, e, f, g, h, i, j) ch, a, b, c, d, e, f, g, h, i, j) := rfl
theorem wrong_eq (l : List S56) (a : ByteArray) (b c d : Int) (e : ByteArray) (f g h i j ch : Int) : expr_parser_wrong.f l a b c d e f g h i j ch = some (wrongS (a, b, c, d, e, f, g, h, i, j) ch) := by
 unfold expr_parser_wrong.f wrongS
 show _ = some (if i = 0 then _ else _)
 split <;> rfl
theorem begins_eq (l : List S56) (a : ByteArray) (b c d : Int) (e : ByteArray) (f g h i j : Int) : expr_parser_begins.f l a b c d e f g h i j = some (begB (a, b, c, d, e, f, g, h, i, j), a, b, c, d, e, f, g, h, i, j) := by
 unfold expr_parser_begins.f begB
 simp only [is_eq, Option.bind_some]
 cases isB (a, b, c, d, e, f, g, h, i, j) 48 <;> cases isB (a, b, c, d, e, f, g, h, i, j) 49 <;> cases isB (a, b, c, d, e, f, g, h, i, j) 40 <;> simp
 by_cases h4 : d = 4 <;> simp [h4]
theorem several_eq (k : Int) (xs : List S28) (h : xs ≠ []) : expr_several.f k xs = some ((severalT k xs).f0, (severalT k xs).f1, (severalT k xs).f2, (severalT k xs).f3) := by
 unfold expr_several.f severalT
 cases xs with
 | nil => exact absurd rfl h
 | cons x t =>
  cases t with
  | nil => simp [rd_T28]
  | cons y ys =>
   rw [if_neg (by simp only [List.length_cons]; omega), Int.toNat_natCast, List.take_length]
section
variable (k : Nat) (l : List S56) (σ : PS)
theorem within_step : withinW (k + 1) l σ = if σ.2.2.2.2.2.2.2.1 > 40 then within0W k l (wrongS σ 3) else within0W k l σ := by
 unfold withinW within0W
 rw [expr_parser_within.f]
 simp only [wrong_eq, Option.bind_some]
theorem within0_step : within0W (k + 1) l σ = if errOf σ = 0 then (nextW k l (deepBy σ 1)).bind fun τ => (orW k l τ).bind fun r => some (r.1, r.2.1, r.2.2.1, r.2.2.2.1, deepBy r.2.2.2.2 (-1)) else some (0, 0, 0, [], σ) := by
 unfold within0W
 rw [expr_parser_within.j0]
 rfl
theorem atom_step : atomW (k + 1) l σ = if isB σ 48 = true then (nextW k l σ).bind fun τ => some (res ⟨1, 0, 0, []⟩ τ)
 else if isB σ 49 = true then (nextW k l σ).bind fun τ => some (res ⟨2, 0, 0, []⟩ τ)
 else if isB σ 40 = true then (withinW k l σ).bind fun r => if isB r.2.2.2.2 41 = true then (nextW k l r.2.2.2.2).bind fun τ => some (res (exOf r) τ) else (nextW k l (wrongS r.2.2.2.2 1)).bind fun τ => some (res (exOf r) τ)
 else if σ.2.2.2.1 = 4 then (symW k l σ).bind fun z => (nextW k l z.2).bind fun τ => some (res ⟨3, z.1, 0, []⟩ τ)
 else if σ.2.2.2.1 = 5 then (symW k l σ).bind fun z => (withinW k l z.2).bind fun r => if r.2.2.2.2.2.2.2.1 = 6 then (symW k l r.2.2.2.2).bind fun y => (nextW k l y.2).bind fun τ => some (res ⟨4, z.1, y.1, [exOf r]⟩ τ) else (nextW k l (wrongS r.2.2.2.2 1)).bind fun τ => some (res ⟨4, z.1, 0, [exOf r]⟩ τ)
 else (nextW k l (wrongS σ 1)).bind fun τ => some (res ⟨0, 0, 0, []⟩ τ) := by
 unfold atomW
 rw [expr_parser_atom.f]
 simp only [is_eq, wrong_eq, Option.bind_some]
 rfl
theorem rep_step : repW (k + 1) l σ = (atomW k l σ).bind fun r => repL k l r.2.2.2.2 (exOf r) := by
 unfold repW
 rw [expr_parser_rep.f]
 rfl
theorem repL_step (x : S28) : repL (k + 1) l σ x = if errOf σ = 0 then (if isB σ 42 = true then (nextW k l σ).bind fun τ => repL k l τ ⟨7, 0, 0, [x]⟩ else some (res x σ)) else some (res x σ) := by
 cases x
 unfold repL
 rw [expr_parser_rep.l0]
 simp only [is_eq, Option.bind_some]
 rfl
theorem cat_step : catW (k + 1) l σ = (repW k l σ).bind fun r => catL k [exOf r] l r.2.2.2.2 := by
 unfold catW
 rw [expr_parser_cat.f]
 rfl
theorem catL_step (acc : List S28) (h : acc ≠ []) : catL (k + 1) acc l σ = if errOf σ = 0 then (if begB σ = true then (repW k l σ).bind fun r => if acc.length < 2932031007402 then catL k (acc ++ [exOf r]) l r.2.2.2.2 else none else some (res (severalT 5 acc) σ)) else some (res (severalT 5 acc) σ) := by
 unfold catL
 rw [expr_parser_cat.l0]
 simp only [begins_eq, Option.bind_some, several_eq 5 acc h]
 rfl
theorem or_step : orW (k + 1) l σ = (catW k l σ).bind fun r => orL k [exOf r] l r.2.2.2.2 := by
 unfold orW
 rw [expr_parser_or.f]
 rfl
theorem orL_step (acc : List S28) : orL (k + 1) acc l σ = if errOf σ = 0 then orJ k acc (isB σ 124) l σ else orJ k acc false l σ := by
 unfold orL
 rw [expr_parser_or.l0]
 simp only [is_eq, Option.bind_some]
 rfl
theorem orJ_step (acc : List S28) (b : Bool) (h : acc ≠ []) : orJ (k + 1) acc b l σ = if b = true then (nextW k l σ).bind fun τ => (catW k l τ).bind fun r => if acc.length < 2932031007402 then orL k (acc ++ [exOf r]) l r.2.2.2.2 else none else some (res (severalT 6 acc) σ) := by
 unfold orJ
 rw [expr_parser_or.j1]
 simp only [Option.bind_some, several_eq 6 acc h]
 rfl
end
end Go.Proofs.YtodbnnfiadcbaaaL
namespace Go.Proofs.YtodbnnfiadcbaaaL
open Go.RowKit Go.Proofs.Ytodbnnfiadcbaaa.P Go.Proofs.YtodbnnfiadcbaaaW.PrintWords Go.Proofs.YtodbnnfiadcbaaaW.PrintLast Go.Proofs.YtodbnnfiadcbaaaW.PrintMore
set_option linter.unusedSimpArgs false
set_option linter.unusedVariables false
section
variable {l : List S56} {s : ByteArray}
theorem st_is {f m : Nat} {t : Tk} {d e p ch : Int} {c : UInt8} (ht : tokAt ((L s).drop f) = (t, m)) (hc : ch = (c.toNat : Int)) : isB (st s f d e p) ch = t.isOne c := by
 have h1 : isB (st s f d e p) ch = (t.K == 3 && ((t.N.toList == ([] : List UInt8) && (t.S == 0)) && (t.C == ch))) := by
  unfold isB st stT
  rw [ht]
 rw [h1, hc]
 cases t with
 | one b =>
  show ((3 : Int) == 3 && (((⟨#[]⟩ : ByteArray).toList == ([] : List UInt8) && ((0 : Int) == 0)) && ((b.toNat : Int) == (c.toNat : Int)))) = (b == c)
  rw [toL, Lnil]
  have : ((b.toNat : Int) == (c.toNat : Int)) = (b == c) := by
   rw [Bool.eq_iff_iff]
   simp only [beq_iff_eq]
   constructor
   ·intro h; exact UInt8.toNat_inj.1 (by omega)
   ·intro h; rw [h]
  rw [this]
  rfl
 | _ => rfl
theorem st_K {f m : Nat} {t : Tk} {d e p : Int} (ht : tokAt ((L s).drop f) = (t, m)) : (st s f d e p).2.2.2.1 = t.K := by unfold st; rw [ht]; rfl
theorem st_beg {f m : Nat} {t : Tk} {d e p : Int} (ht : tokAt ((L s).drop f) = (t, m)) : begB (st s f d e p) = t.begins := by
 unfold begB
 rw [st_is (ch := 48) (c := 48) ht rfl, st_is (ch := 49) (c := 49) ht rfl, st_is (ch := 40) (c := 40) ht rfl, st_K ht]
 cases t with
 | one b => simp [Tk.isOne, Tk.begins, Tk.K]
 | _ => rfl
theorem wrong_st (f : Nat) (d e : Int) : wrongS (st s f d 0 0) e = st s f d e (f : Int) := rfl
theorem wrong_no {f : Nat} {d e p e2 : Int} (h : e ≠ 0) : wrongS (st s f d e p) e2 = st s f d e p := by
 unfold wrongS
 exact if_neg h
theorem nextW_st (hs : s.size ≤ 2000) {f m : Nat} {t : Tk} {d e p : Int} (ht : tokAt ((L s).drop f) = (t, m)) (hf : f ≤ s.size) : Ev (fun k => nextW k l (st s f d e p)) (st s (nx (L s) (f + m)) d e p) := by
 have h := tok_le (L s) f (by rw [L_len]; exact hf)
 rw [ht, L_len] at h
 have := next_ev l s hs (f + m) h (st s f d e p).2.1 (st s f d e p).2.2.2.1 (st s f d e p).2.2.2.2.1 (st s f d e p).2.2.2.2.2.1 (st s f d e p).2.2.2.2.2.2.1 d e p
 have e1 : ((f + m : Nat) : Int) = (st s f d e p).2.2.1 := by unfold st; rw [ht]; rfl
 rw [e1] at this
 exact this
theorem nx_fit {f m : Nat} {t : Tk} (ht : tokAt ((L s).drop f) = (t, m)) (hf : f ≤ s.size) : nx (L s) (f + m) ≤ s.size := by
 have h := tok_le (L s) f (by rw [L_len]; exact hf)
 rw [ht] at h
 have := nx_le (L s) (f + m) h
 rwa [L_len] at this
/-! symbols -/
theorem sym_l0 (hl : l.length ≤ 1000) (σ : PS) (nm : List UInt8) (hn : σ.2.2.2.2.1 = B nm) : ∀ (m i : Nat), i + m = l.length →
 Ev (fun k => expr_parser_sym.l0 k l (l.length : Int) (i : Int) l σ.1 σ.2.1 σ.2.2.1 σ.2.2.2.1 σ.2.2.2.2.1 σ.2.2.2.2.2.1 σ.2.2.2.2.2.2.1 σ.2.2.2.2.2.2.2.1 σ.2.2.2.2.2.2.2.2.1 σ.2.2.2.2.2.2.2.2.2)
  (match findT (l.drop i) nm σ.2.2.2.2.2.1 i with | some j => (j, σ) | none => (0, wrongS σ 6)) := by
 intro m
 induction m with
 | zero =>
  intro i hi
  rw [List.drop_eq_nil_of_le (by omega)]
  refine Ev.step (fun k => rfl) ?_
  refine Ev.congr (f := fun _ => some (0, wrongS σ 6)) (fun k => ?_) (Ev.now _)
  rw [expr_parser_sym.l0, if_neg (by omega), wrong_eq, Option.bind_some]
 | succ m ih =>
  intro i hi
  have hlt : i < l.length := by omega
  have hr : rd_T56 l (i : Int) = l[i] := rd56_get hlt
  rw [List.drop_eq_getElem_cons hlt, findT]
  refine Ev.step (fun k => rfl) ?_
  have hb : (((rd_T56 l (i : Int)).f0.toList == σ.2.2.2.2.1.toList && ((rd_T56 l (i : Int)).f1 == σ.2.2.2.2.2.1)) = true) ↔ (l[i].f0.data.toList = nm ∧ l[i].f1 = σ.2.2.2.2.2.1) := by
   rw [hr, hn, toL, toL, L_B, Bool.and_eq_true, beq_iff_eq, beq_iff_eq]
   exact Iff.rfl
  by_cases h : l[i].f0.data.toList = nm ∧ l[i].f1 = σ.2.2.2.2.2.1
  ·rw [if_pos h]
   exact Ev.congr (f := fun _ => some ((i : Int), σ)) (fun k => by rw [expr_parser_sym.l0, if_pos (by omega), if_pos (by omega), if_pos (by omega), if_pos (hb.mpr h)]) (Ev.now _)
  ·rw [if_neg h]
   refine Ev.congr (fun k => by rw [expr_parser_sym.l0, if_pos (by omega), if_pos (by omega), if_pos (by omega), if_neg (fun q => h (hb.mp q)), wrap_suc i l.length hlt (by omega)]) ?_
   exact ih (i + 1) (by omega)
theorem symW_st (hl : l.length ≤ 1000) {f m : Nat} {t : Tk} {nm : List UInt8} {k9 d e p : Int} (ht : tokAt ((L s).drop f) = (t, m)) (hN : t.N = B nm) (hS : t.S = k9) : Ev (fun k => symW k l (st s f d e p)) (match findT l nm k9 0 with | some j => (j, st s f d e p) | none => (0, wrongS (st s f d e p) 6)) := by
 have := sym_l0 hl (st s f d e p) nm (by unfold st; rw [ht]; exact hN) l.length 0 (by omega)
 have e2 : (st s f d e p).2.2.2.2.2.1 = k9 := by unfold st; rw [ht]; exact hS
 rw [List.drop_zero, e2] at this
 have e3 := this
 unfold symW expr_parser_sym.f
 rw [← e2] at e3 ⊢
 exact e3
/-! what comes out -/
def Out (s : ByteArray) (d : Int) (F : Nat → Option PR) : Rs → Prop
 | .ok v g => g ≤ s.size ∧ Ev F (res v (st s g d 0 0))
 | .err e p => e ≠ 0 ∧ ∃ x g, g ≤ s.size ∧ Ev F (res x (st s g d e (p : Int)))
theorem Out.step {d : Int} {F G : Nat → Option PR} {r : Rs} (h : ∀ k, F (k + 1) = G k) (o : Out s d G r) : Out s d F r := by
 cases r with
 | ok v g => exact ⟨o.1, Ev.step h o.2⟩
 | err e p => obtain ⟨o1, x, g, o2, o3⟩ := o; exact ⟨o1, x, g, o2, Ev.step h o3⟩
theorem Out.congr {d : Int} {F G : Nat → Option PR} {r : Rs} (h : ∀ k, F k = G k) (o : Out s d G r) : Out s d F r := by
 have : F = G := funext h
 rw [this]; exact o
theorem Out.bind {α : Type} {d : Int} {F : Nat → Option α} {C : Nat → α → Option PR} {a : α} {r : Rs} (h : Ev F a) (o : Out s d (fun k => C k a) r) : Out s d (fun k => (F k).bind (C k)) r := by
 cases r with
 | ok v g => exact ⟨o.1, Ev.bind h o.2⟩
 | err e p => obtain ⟨o1, x, g, o2, o3⟩ := o; exact ⟨o1, x, g, o2, Ev.bind h o3⟩
theorem Rs.and_cases {r : Option Rs} {g : S28 → Nat → Option Rs} {v : Rs} (h : Rs.and r g = some v) : (∃ x q, r = some (.ok x q) ∧ g x q = some v) ∨ (∃ e p, r = some (.err e p) ∧ v = .err e p) := by
 cases r with
 | none => simp [Rs.and] at h
 | some r =>
  cases r with
  | ok x q => exact .inl ⟨x, q, rfl, h⟩
  | err e q => exact .inr ⟨e, q, rfl, by simpa [Rs.and] using h.symm⟩
structure Sim (l : List S56) (s : ByteArray) (n : Nat) : Prop where
 atom : ∀ (d f : Nat) r, f ≤ s.size → d ≤ 41 → aAtom l (L s) n d f = some r → Out s d (fun k => atomW k l (st s f d 0 0)) r
 rep : ∀ (d f : Nat) r, f ≤ s.size → d ≤ 41 → aRep l (L s) n d f = some r → Out s d (fun k => repW k l (st s f d 0 0)) r
 cat : ∀ (d f : Nat) r, f ≤ s.size → d ≤ 41 → aCat l (L s) n d f = some r → Out s d (fun k => catW k l (st s f d 0 0)) r
 or : ∀ (d f : Nat) r, f ≤ s.size → d ≤ 41 → aOr l (L s) n d f = some r → Out s d (fun k => orW k l (st s f d 0 0)) r
 stars : ∀ (d f : Nat) x r, f ≤ s.size → aStars l (L s) n x f = some r → Out s d (fun k => repL k l (st s f d 0 0) x) r
 cats : ∀ (d f : Nat) acc r, f ≤ s.size → d ≤ 41 → acc ≠ [] → acc.length ≤ f → aCats l (L s) n d acc f = some r → Out s d (fun k => catL k acc l (st s f d 0 0)) r
 ors : ∀ (d f : Nat) acc r, f ≤ s.size → d ≤ 41 → acc ≠ [] → acc.length ≤ f → aOrs l (L s) n d acc f = some r → Out s d (fun k => orL k acc l (st s f d 0 0)) r
theorem repL_err {σ : PS} (x : S28) (h : errOf σ ≠ 0) : Ev (fun k => repL k l σ x) (res x σ) :=
 Ev.step (fun k => repL_step k l σ x) (Ev.congr (f := fun _ => some (res x σ)) (fun k => by rw [if_neg h]) (Ev.now _))
theorem catL_err {σ : PS} {acc : List S28} (ha : acc ≠ []) (h : errOf σ ≠ 0) : Ev (fun k => catL k acc l σ) (res (severalT 5 acc) σ) :=
 Ev.step (fun k => catL_step k l σ acc ha) (Ev.congr (f := fun _ => some (res (severalT 5 acc) σ)) (fun k => by rw [if_neg h]) (Ev.now _))
theorem orL_err {σ : PS} {acc : List S28} (ha : acc ≠ []) (h : errOf σ ≠ 0) : Ev (fun k => orL k acc l σ) (res (severalT 6 acc) σ) :=
 Ev.step (fun k => orL_step k l σ acc) (Ev.congr (f := fun k => orJ k acc false l σ) (fun k => by rw [if_neg h]) (Ev.step (fun k => orJ_step k l σ acc false ha) (Ev.congr (f := fun _ => some (res (severalT 6 acc) σ)) (fun k => by rw [if_neg (by decide)]) (Ev.now _))))
theorem within_err {f : Nat} {d e p : Int} (h : e ≠ 0) : Ev (fun k => withinW k l (st s f d e p)) (res ⟨0, 0, 0, []⟩ (st s f d e p)) := by
 refine Ev.step (fun k => within_step k l _) ?_
 rw [wrong_no h]
 refine Ev.congr (f := fun k => within0W k l (st s f d e p)) (fun k => by split <;> rfl) ?_
 refine Ev.step (fun k => within0_step k l _) ?_
 exact Ev.congr (f := fun _ => some (res ⟨0, 0, 0, []⟩ (st s f d e p))) (fun k => by rw [if_neg (show ¬ errOf (st s f d e p) = 0 from h)]; rfl) (Ev.now _)
theorem within_out (hs : s.size ≤ 2000) {n d f m : Nat} {t : Tk} (ih : Sim l s n) (ht : tokAt ((L s).drop f) = (t, m)) (hf : f ≤ s.size) (hd : ¬ 40 < d) {r : Rs} (h : aOr l (L s) n (d + 1) (nx (L s) (f + m)) = some r) : Out s d (fun k => withinW k l (st s f d 0 0)) r := by
 have w1 : wrap64 ((d : Int) + 1) = ((d + 1 : Nat) : Int) := wrap_add d 1 _ rfl (Nat.le_trans (Nat.add_le_add_right (Nat.le_of_not_lt hd) 1) (by decide))
 have w2 : wrap64 (((d + 1 : Nat) : Int) + (-1)) = (d : Int) := by unfold wrap64; omega
 refine Out.step (fun k => within_step k l _) ?_
 refine Out.congr (G := fun k => within0W k l (st s f d 0 0)) (fun k => by rw [if_neg (show ¬ (st s f (d : Int) 0 0).2.2.2.2.2.2.2.1 > 40 from by show ¬ (d : Int) > 40; omega)]) ?_
 refine Out.step (fun k => within0_step k l _) ?_
 refine Out.congr (fun k => by rw [if_pos (show errOf (st s f (d : Int) 0 0) = 0 from rfl)]) ?_
 have e1 : deepBy (st s f (d : Int) 0 0) 1 = st s f ((d + 1 : Nat) : Int) 0 0 := by
  show (_, _, _, _, _, _, _, wrap64 ((d : Int) + 1), _, _) = _
  rw [w1]; rfl
 rw [e1]
 refine Out.bind (nextW_st hs ht hf) ?_
 have e2 : ∀ (g : Nat) (e p : Int), deepBy (st s g ((d + 1 : Nat) : Int) e p) (-1) = st s g (d : Int) e p := fun g e p => by
  show (_, _, _, _, _, _, _, wrap64 (((d + 1 : Nat) : Int) + (-1)), _, _) = _
  rw [w2]; rfl
 have o := ih.or (d + 1) _ r (nx_fit ht hf) (by omega) h
 cases r with
 | ok v g =>
  refine ⟨o.1, Ev.bind o.2 ?_⟩
  refine Ev.congr (f := fun _ => some (res v (st s g d 0 0))) (fun k => ?_) (Ev.now _)
  show some (v.f0, v.f1, v.f2, v.f3, deepBy (st s g ((d + 1 : Nat) : Int) 0 0) (-1)) = _
  rw [e2]; rfl
 | err e p =>
  obtain ⟨o1, x, g, o2, o3⟩ := o
  refine ⟨o1, x, g, o2, Ev.bind o3 ?_⟩
  refine Ev.congr (f := fun _ => some (res x (st s g d e p))) (fun k => ?_) (Ev.now _)
  show some (x.f0, x.f1, x.f2, x.f3, deepBy (st s g ((d + 1 : Nat) : Int) e p) (-1)) = _
  rw [e2]; rfl
theorem next_any (hs : s.size ≤ 2000) {f : Nat} {d e p : Int} (hf : f ≤ s.size) : ∃ g, g ≤ s.size ∧ Ev (fun k => nextW k l (st s f d e p)) (st s g d e p) :=
 ⟨_, nx_fit rfl hf, nextW_st hs rfl hf⟩
theorem within_deep {f d : Nat} (h : 40 < d) : Ev (fun k => withinW k l (st s f d 0 0)) (res ⟨0, 0, 0, []⟩ (st s f d 3 f)) := by
 refine Ev.step (fun k => within_step k l _) ?_
 refine Ev.congr (f := fun k => within0W k l (st s f d 3 f)) (fun k => by rw [if_pos (show (st s f (d : Int) 0 0).2.2.2.2.2.2.2.1 > 40 from by show (d : Int) > 40; omega), wrong_st]) ?_
 refine Ev.step (fun k => within0_step k l _) ?_
 exact Ev.congr (f := fun _ => some (res ⟨0, 0, 0, []⟩ (st s f d 3 f))) (fun k => by rw [if_neg (show ¬ errOf (st s f (d : Int) 3 f) = 0 by show ¬ (3 : Int) = 0; decide)]; rfl) (Ev.now _)
theorem exOf_res (x : S28) (σ : PS) : exOf (res x σ) = x := by cases x; rfl
theorem paren_err (hs : s.size ≤ 2000) {g d p : Nat} {e : Int} {x : S28} (hg : g ≤ s.size) (he : e ≠ 0) : Out s d (fun k => if isB (res x (st s g d e p)).2.2.2.2 41 = true then (nextW k l (res x (st s g d e p)).2.2.2.2).bind fun τ => some (res (exOf (res x (st s g d e p))) τ) else (nextW k l (wrongS (res x (st s g d e p)).2.2.2.2 1)).bind fun τ => some (res (exOf (res x (st s g d e p))) τ)) (.err e p) := by
 obtain ⟨g2, g1, g3⟩ := next_any (l := l) hs (d := d) (e := e) (p := p) hg
 refine ⟨he, x, g2, g1, ?_⟩
 refine Ev.congr (f := fun k => (nextW k l (st s g d e p)).bind fun τ => some (res x τ)) (fun k => ?_) (Ev.bind g3 (Ev.now _))
 show (if isB (st s g d e p) 41 = true then (nextW k l (st s g d e p)).bind fun τ => some (res x τ) else (nextW k l (wrongS (st s g d e p) 1)).bind fun τ => some (res x τ)) = _
 rw [wrong_no he]
 split <;> rfl
theorem nest_err (hs : s.size ≤ 2000) (hl : l.length ≤ 1000) {g d p : Nat} {e a : Int} {x : S28} (hg : g ≤ s.size) (he : e ≠ 0) : Out s d (fun k => if (res x (st s g d e p)).2.2.2.2.2.2.2.1 = 6 then (symW k l (res x (st s g d e p)).2.2.2.2).bind fun y => (nextW k l y.2).bind fun τ => some (res ⟨4, a, y.1, [exOf (res x (st s g d e p))]⟩ τ) else (nextW k l (wrongS (res x (st s g d e p)).2.2.2.2 1)).bind fun τ => some (res ⟨4, a, 0, [exOf (res x (st s g d e p))]⟩ τ)) (.err e p) := by
 obtain ⟨g2, g1, g3⟩ := next_any (l := l) hs (d := d) (e := e) (p := p) hg
 rw [exOf_res]
 show Out s d (fun k => if (st s g d e p).2.2.2.1 = 6 then (symW k l (st s g d e p)).bind fun y => (nextW k l y.2).bind fun τ => some (res ⟨4, a, y.1, [x]⟩ τ) else (nextW k l (wrongS (st s g d e p) 1)).bind fun τ => some (res ⟨4, a, 0, [x]⟩ τ)) (.err e p)
 rw [wrong_no he]
 obtain ⟨t, m, ht⟩ : ∃ t m, tokAt ((L s).drop g) = (t, m) := ⟨_, _, rfl⟩
 rw [st_K ht]
 by_cases hk : t.K = 6
 ·refine Out.congr (fun k => by rw [if_pos hk]) ?_
  obtain ⟨nm, rfl⟩ : ∃ nm, t = .over nm := by
   cases t with
   | over nm => exact ⟨nm, rfl⟩
   | _ => simp [Tk.K] at hk
  refine Out.bind (symW_st (k9 := 2) hl ht rfl rfl) ?_
  rw [wrong_no he]
  cases findT l nm 2 0 with
  | some j => exact ⟨he, _, g2, g1, Ev.bind g3 (Ev.now _)⟩
  | none => exact ⟨he, _, g2, g1, Ev.bind g3 (Ev.now _)⟩
 ·refine Out.congr (fun k => by rw [if_neg hk]) ?_
  exact ⟨he, _, g2, g1, Ev.bind g3 (Ev.now _)⟩
theorem sim (hs : s.size ≤ 2000) (hl : l.length ≤ 1000) : ∀ n, Sim l s n
 | 0 => by constructor <;> intros <;> simp_all [aAtom, aRep, aCat, aOr, aStars, aCats, aOrs]
 | n + 1 => by
  have ih := sim hs hl n
  have hb := bnd l (L s) n
  have hL : (L s).length = s.size := L_len s
  constructor
  ·intro d f r hf hd h
   refine Out.step (fun k => atom_step k l _) ?_
   obtain ⟨t, m, ht⟩ : ∃ t m, tokAt ((L s).drop f) = (t, m) := ⟨_, _, rfl⟩
   rw [st_is (ch := 48) (c := 48) ht rfl, st_is (ch := 49) (c := 49) ht rfl, st_is (ch := 40) (c := 40) ht rfl, st_K ht]
   rw [aAtom, ht] at h
   have wrongHere : ∀ (e : Int), e ≠ 0 → Out s d (fun k => (nextW k l (wrongS (st s f d 0 0) e)).bind fun τ => some (res ⟨0, 0, 0, []⟩ τ)) (.err e f) := fun e he => by
    rw [wrong_st]
    obtain ⟨g, g1, g2⟩ := next_any (l := l) hs (d := d) (e := e) (p := f) hf
    exact ⟨he, ⟨0, 0, 0, []⟩, g, g1, Ev.bind g2 (Ev.now _)⟩
   cases t with
   | one c =>
    have e0 := one_step (s := L s) (f := f) (c := c) (by rw [ht]; simp [Tk.isOne]) (by rw [hL]; exact hf)
    have e1 := e0.2.2
    by_cases h48 : c = 48
    ·subst h48
     injection h with h; subst h
     refine Out.congr (fun k => by rw [if_pos (show (Tk.one 48).isOne 48 = true from rfl)]) ?_
     exact Out.bind (nextW_st hs e1 hf) ⟨nx_fit e1 hf, Ev.now _⟩
    by_cases h49 : c = 49
    ·subst h49
     injection h with h; subst h
     refine Out.congr (fun k => by rw [if_neg (show ¬ (Tk.one 49).isOne 48 = true by decide), if_pos (show (Tk.one 49).isOne 49 = true from rfl)]) ?_
     exact Out.bind (nextW_st hs e1 hf) ⟨nx_fit e1 hf, Ev.now _⟩
    have n48 : ¬ (Tk.one c).isOne 48 = true := by simpa [Tk.isOne] using h48
    have n49 : ¬ (Tk.one c).isOne 49 = true := by simpa [Tk.isOne] using h49
    simp only [if_neg h48, if_neg h49] at h
    by_cases h40 : c = 40
    ·subst h40
     rw [if_pos rfl] at h
     refine Out.congr (fun k => by rw [if_neg n48, if_neg n49, if_pos (show (Tk.one 40).isOne 40 = true from rfl)]) ?_
     by_cases hd40 : 40 < d
     ·rw [if_pos hd40] at h
      injection h with h; subst h
      exact Out.bind (within_deep hd40) (paren_err hs hf (by decide))
     ·rw [if_neg hd40] at h
      rcases Rs.and_cases h with ⟨x, q, h1, h2⟩ | ⟨e, p, h1, rfl⟩
      ·obtain ⟨o1, o2⟩ := within_out hs ih e1 hf hd40 h1
       refine Out.bind o2 ?_
       show Out s d (fun k => if isB (st s q d 0 0) 41 = true then (nextW k l (st s q d 0 0)).bind fun τ => some (res x τ) else (nextW k l (wrongS (st s q d 0 0) 1)).bind fun τ => some (res x τ)) r
       obtain ⟨t2, m2, ht2⟩ : ∃ t m, tokAt ((L s).drop q) = (t, m) := ⟨_, _, rfl⟩
       rw [st_is (ch := 41) (c := 41) ht2 rfl]
       by_cases hq : (tokAt ((L s).drop q)).1.isOne 41 = true
       ·have e2 := (one_step hq (by rw [hL]; exact o1)).2.2
        rw [if_pos hq] at h2
        injection h2 with h2; subst h2
        rw [ht2] at hq
        refine Out.congr (fun k => by rw [if_pos hq]) ?_
        exact Out.bind (nextW_st hs e2 o1) ⟨nx_fit e2 o1, Ev.now _⟩
       ·rw [if_neg hq] at h2
        injection h2 with h2; subst h2
        rw [ht2] at hq
        refine Out.congr (fun k => by rw [if_neg hq, wrong_st]) ?_
        obtain ⟨g, g1, g2⟩ := next_any (l := l) hs (d := d) (e := 1) (p := q) o1
        exact ⟨by decide, x, g, g1, Ev.bind g2 (Ev.now _)⟩
      ·obtain ⟨o1, x, g, o2, o3⟩ := within_out hs ih e1 hf hd40 h1
       exact Out.bind o3 (paren_err hs o2 o1)
    ·simp only [if_neg h40] at h
     injection h with h; subst h
     have n40 : ¬ (Tk.one c).isOne 40 = true := by simpa [Tk.isOne] using h40
     exact Out.congr (fun k => by rw [if_neg n48, if_neg n49, if_neg n40, if_neg (show ¬ (Tk.one c).K = 4 by simp [Tk.K]), if_neg (show ¬ (Tk.one c).K = 5 by simp [Tk.K])]) (wrongHere 1 (by decide))
   | sym nm kd =>
    have no : ∀ c, ¬ (Tk.sym nm kd).isOne c = true := fun c => by simp [Tk.isOne]
    refine Out.congr (fun k => by rw [if_neg (no 48), if_neg (no 49), if_neg (no 40), if_pos (show (Tk.sym nm kd).K = 4 from rfl)]) ?_
    refine Out.bind (symW_st (k9 := kd) hl ht rfl rfl) ?_
    simp only at h
    cases hq : findT l nm kd 0 with
    | some i =>
     rw [hq] at h
     injection h with h; subst h
     exact Out.bind (nextW_st hs ht hf) ⟨nx_fit ht hf, Ev.now _⟩
    | none =>
     rw [hq] at h
     injection h with h; subst h
     obtain ⟨g, g1, g2⟩ := next_any (l := l) hs (d := d) (e := 6) (p := f) hf
     exact ⟨by decide, _, g, g1, Ev.bind g2 (Ev.now _)⟩
   | nest nm =>
    have no : ∀ c, ¬ (Tk.nest nm).isOne c = true := fun c => by simp [Tk.isOne]
    refine Out.congr (fun k => by rw [if_neg (no 48), if_neg (no 49), if_neg (no 40), if_neg (show ¬ (Tk.nest nm).K = 4 by simp [Tk.K]), if_pos (show (Tk.nest nm).K = 5 from rfl)]) ?_
    refine Out.bind (symW_st (k9 := 1) hl ht rfl rfl) ?_
    simp only at h
    cases hq : findT l nm 1 0 with
    | none =>
     rw [hq] at h
     injection h with h; subst h
     exact Out.bind (within_err (show (6 : Int) ≠ 0 by decide)) (nest_err hs hl hf (by decide))
    | some a =>
     rw [hq] at h
     simp only at h ⊢
     by_cases hd40 : 40 < d
     ·rw [if_pos hd40] at h
      injection h with h; subst h
      exact Out.bind (within_deep hd40) (nest_err hs hl hf (by decide))
     ·rw [if_neg hd40] at h
      rcases Rs.and_cases h with ⟨x, q, h1, h2⟩ | ⟨e, p, h1, rfl⟩
      ·obtain ⟨o1, o2⟩ := within_out hs ih ht hf hd40 h1
       refine Out.bind o2 ?_
       rw [exOf_res]
       show Out s d (fun k => if (st s q (d : Int) 0 0).2.2.2.1 = 6 then (symW k l (st s q d 0 0)).bind fun y => (nextW k l y.2).bind fun τ => some (res ⟨4, a, y.1, [x]⟩ τ) else (nextW k l (wrongS (st s q d 0 0) 1)).bind fun τ => some (res ⟨4, a, 0, [x]⟩ τ)) r
       obtain ⟨t2, m2, ht2⟩ : ∃ t m, tokAt ((L s).drop q) = (t, m) := ⟨_, _, rfl⟩
       rw [st_K ht2]
       rw [ht2] at h2
       have bad : t2.K ≠ 6 → some (Rs.err 1 q) = some r → Out s d (fun k => if t2.K = 6 then (symW k l (st s q d 0 0)).bind fun y => (nextW k l y.2).bind fun τ => some (res ⟨4, a, y.1, [x]⟩ τ) else (nextW k l (wrongS (st s q d 0 0) 1)).bind fun τ => some (res ⟨4, a, 0, [x]⟩ τ)) r := fun hk hr => by
        injection hr with hr; subst hr
        refine Out.congr (fun k => by rw [if_neg hk, wrong_st]) ?_
        obtain ⟨g, g1, g2⟩ := next_any (l := l) hs (d := d) (e := 1) (p := q) o1
        exact ⟨by decide, _, g, g1, Ev.bind g2 (Ev.now _)⟩
       cases t2 with
       | over nm2 =>
        refine Out.congr (fun k => by rw [if_pos (show (Tk.over nm2).K = 6 from rfl)]) ?_
        refine Out.bind (symW_st (k9 := 2) hl ht2 rfl rfl) ?_
        simp only at h2
        cases hq2 : findT l nm2 2 0 with
        | some b =>
         rw [hq2] at h2
         injection h2 with h2; subst h2
         exact Out.bind (nextW_st hs ht2 o1) ⟨nx_fit ht2 o1, Ev.now _⟩
        | none =>
         rw [hq2] at h2
         injection h2 with h2; subst h2
         obtain ⟨g, g1, g2⟩ := next_any (l := l) hs (d := d) (e := 6) (p := q) o1
         exact ⟨by decide, _, g, g1, Ev.bind g2 (Ev.now _)⟩
       | eof => exact bad (by simp [Tk.K]) h2
       | bad => exact bad (by simp [Tk.K]) h2
       | one c => exact bad (by simp [Tk.K]) h2
       | sym nm2 k2 => exact bad (by simp [Tk.K]) h2
       | nest nm2 => exact bad (by simp [Tk.K]) h2
      ·obtain ⟨o1, x, g, o2, o3⟩ := within_out hs ih ht hf hd40 h1
       exact Out.bind o3 (nest_err hs hl o2 o1)
   | over nm =>
    injection h with h; subst h
    exact Out.congr (fun k => rfl) (wrongHere 1 (by decide))
   | eof =>
    injection h with h; subst h
    exact Out.congr (fun k => rfl) (wrongHere 1 (by decide))
   | bad =>
    injection h with h; subst h
    exact Out.congr (fun k => rfl) (wrongHere 1 (by decide))
  ·intro d f r hf hd h
   rw [aRep] at h
   refine Out.step (fun k => rep_step k l _) ?_
   rcases Rs.and_cases h with ⟨x, q, h1, h2⟩ | ⟨e, p, h1, rfl⟩
   ·obtain ⟨o1, o2⟩ := ih.atom d f _ hf hd h1
    exact Out.bind o2 (ih.stars d q x r o1 h2)
   ·obtain ⟨o1, x, g, o2, o3⟩ := ih.atom d f _ hf hd h1
    exact ⟨o1, x, g, o2, Ev.bind o3 (repL_err _ o1)⟩
  ·intro d f r hf hd h
   rw [aCat] at h
   refine Out.step (fun k => cat_step k l _) ?_
   rcases Rs.and_cases h with ⟨x, q, h1, h2⟩ | ⟨e, p, h1, rfl⟩
   ·obtain ⟨o1, o2⟩ := ih.rep d f _ hf hd h1
    have b := hb.rep _ _ _ _ (by rw [hL]; exact hf) h1
    have := tsize_eq x
    exact Out.bind o2 (by rw [exOf_res]; exact ih.cats d q [x] r o1 hd (by simp) (by simp only [List.length_singleton]; omega) h2)
   ·obtain ⟨o1, x, g, o2, o3⟩ := ih.rep d f _ hf hd h1
    exact ⟨o1, _, g, o2, Ev.bind o3 (catL_err (by simp) o1)⟩
  ·intro d f r hf hd h
   rw [aOr] at h
   refine Out.step (fun k => or_step k l _) ?_
   rcases Rs.and_cases h with ⟨x, q, h1, h2⟩ | ⟨e, p, h1, rfl⟩
   ·obtain ⟨o1, o2⟩ := ih.cat d f _ hf hd h1
    have b := hb.cat _ _ _ _ (by rw [hL]; exact hf) h1
    have := tsize_eq x
    exact Out.bind o2 (by rw [exOf_res]; exact ih.ors d q [x] r o1 hd (by simp) (by simp only [List.length_singleton]; omega) h2)
   ·obtain ⟨o1, x, g, o2, o3⟩ := ih.cat d f _ hf hd h1
    exact ⟨o1, _, g, o2, Ev.bind o3 (orL_err (by simp) o1)⟩
  ·intro d f x r hf h
   rw [aStars] at h
   refine Out.step (fun k => repL_step k l _ x) ?_
   refine Out.congr (fun k => by rw [if_pos (show errOf (st s f (d : Int) 0 0) = 0 from rfl)]) ?_
   obtain ⟨t, m, ht⟩ : ∃ t m, tokAt ((L s).drop f) = (t, m) := ⟨_, _, rfl⟩
   rw [st_is (ch := 42) (c := 42) ht rfl]
   by_cases hq : (tokAt ((L s).drop f)).1.isOne 42 = true
   ·have e1 := (one_step hq (by rw [hL]; exact hf)).2.2
    rw [if_pos hq] at h
    rw [ht] at hq
    refine Out.congr (fun k => by rw [if_pos hq]) ?_
    refine Out.bind (nextW_st hs e1 hf) ?_
    exact ih.stars d _ _ r (nx_fit e1 hf) h
   ·rw [if_neg hq] at h
    rw [ht] at hq
    injection h with h; subst h
    exact ⟨hf, Ev.congr (f := fun _ => some (res x (st s f d 0 0))) (fun k => by rw [if_neg hq]) (Ev.now _)⟩
  ·intro d f acc r hf hd ha hal h
   rw [aCats] at h
   refine Out.step (fun k => catL_step k l _ acc ha) ?_
   refine Out.congr (fun k => by rw [if_pos (show errOf (st s f (d : Int) 0 0) = 0 from rfl)]) ?_
   obtain ⟨t, m, ht⟩ : ∃ t m, tokAt ((L s).drop f) = (t, m) := ⟨_, _, rfl⟩
   rw [st_beg ht]
   rw [ht] at h
   by_cases hq : t.begins = true
   ·rw [if_pos hq] at h
    refine Out.congr (fun k => by rw [if_pos hq]) ?_
    rcases Rs.and_cases h with ⟨x, q, h1, h2⟩ | ⟨e, p, h1, rfl⟩
    ·obtain ⟨o1, o2⟩ := ih.rep d f _ hf hd h1
     have b := hb.rep _ _ _ _ (by rw [hL]; exact hf) h1
     have := tsize_eq x
     refine Out.bind o2 ?_
     refine Out.congr (fun k => by rw [if_pos (show acc.length < 2932031007402 by omega)]) ?_
     rw [exOf_res]
     exact ih.cats d q (acc ++ [x]) r o1 hd (by simp) (by rw [List.length_append, List.length_singleton]; omega) h2
    ·obtain ⟨o1, x, g, o2, o3⟩ := ih.rep d f _ hf hd h1
     refine ⟨o1, severalT 5 (acc ++ [exOf (res x (st s g d e p))]), g, o2, Ev.bind o3 ?_⟩
     refine Ev.congr (fun k => by rw [if_pos (show acc.length < 2932031007402 by omega)]) ?_
     exact catL_err (by simp) o1
   ·rw [if_neg hq] at h
    injection h with h; subst h
    exact ⟨hf, Ev.congr (f := fun _ => some (res (severalT 5 acc) (st s f d 0 0))) (fun k => by rw [if_neg hq]) (Ev.now _)⟩
  ·intro d f acc r hf hd ha hal h
   rw [aOrs] at h
   refine Out.step (fun k => orL_step k l _ acc) ?_
   refine Out.congr (fun k => by rw [if_pos (show errOf (st s f (d : Int) 0 0) = 0 from rfl)]) ?_
   obtain ⟨t, m, ht⟩ : ∃ t m, tokAt ((L s).drop f) = (t, m) := ⟨_, _, rfl⟩
   rw [st_is (ch := 124) (c := 124) ht rfl]
   refine Out.step (fun k => orJ_step k l _ acc _ ha) ?_
   by_cases hq : (tokAt ((L s).drop f)).1.isOne 124 = true
   ·have e0 := one_step hq (by rw [hL]; exact hf)
    have e1 := e0.2.2
    rw [if_pos hq] at h
    rw [ht] at hq
    refine Out.congr (fun k => by rw [if_pos hq]) ?_
    refine Out.bind (nextW_st hs e1 hf) ?_
    have hf2 := nx_fit e1 hf
    rcases Rs.and_cases h with ⟨x, q, h1, h2⟩ | ⟨e, p, h1, rfl⟩
    ·obtain ⟨o1, o2⟩ := ih.cat d _ _ hf2 hd h1
     have b := hb.cat _ _ _ _ (by rw [hL]; exact hf2) h1
     have := tsize_eq x
     refine Out.bind o2 ?_
     refine Out.congr (fun k => by rw [if_pos (show acc.length < 2932031007402 by omega)]) ?_
     rw [exOf_res]
     exact ih.ors d q (acc ++ [x]) r o1 hd (by simp) (by rw [List.length_append, List.length_singleton]; omega) h2
    ·obtain ⟨o1, x, g, o2, o3⟩ := ih.cat d _ _ hf2 hd h1
     refine ⟨o1, severalT 6 (acc ++ [exOf (res x (st s g d e p))]), g, o2, Ev.bind o3 ?_⟩
     refine Ev.congr (fun k => by rw [if_pos (show acc.length < 2932031007402 by omega)]) ?_
     exact orL_err (by simp) o1
   ·rw [if_neg hq] at h
    rw [ht] at hq
    injection h with h; subst h
    exact ⟨hf, Ev.congr (f := fun _ => some (res (severalT 6 acc) (st s f d 0 0))) (fun k => by rw [if_neg hq]) (Ev.now _)⟩
def tell (l : List S56) (S : List UInt8) : Rs → S28 × Int × Int
 | .err e p => (⟨0, 0, 0, []⟩, (p : Int), e)
 | .ok x g => if (tokAt (S.drop g)).1.isEof then (if treeErr l x = 0 then (x, 0, 0) else (⟨0, 0, 0, []⟩, 0, treeErr l x)) else (⟨0, 0, 0, []⟩, (g : Int), 1)
def parseJ (k : Nat) (l : List S56) (σ : PS) (x : S28) : Option (Int × Int × Int × List S28 × Int × Int) := expr_Parse.j0 k l l σ.1 σ.2.1 σ.2.2.1 σ.2.2.2.1 σ.2.2.2.2.1 σ.2.2.2.2.2.1 σ.2.2.2.2.2.2.1 σ.2.2.2.2.2.2.2.1 σ.2.2.2.2.2.2.2.2.1 σ.2.2.2.2.2.2.2.2.2 x.f0 x.f1 x.f2 x.f3
def six (r : S28 × Int × Int) : Int × Int × Int × List S28 × Int × Int := (r.1.f0, r.1.f1, r.1.f2, r.1.f3, r.2.1, r.2.2)
theorem parseJ_err {σ : PS} (x : S28) (h : errOf σ ≠ 0) : Ev (fun k => parseJ k l σ x) (six (⟨0, 0, 0, []⟩, σ.2.2.2.2.2.2.2.2.2, errOf σ)) := by
 refine Ev.step (fun k => rfl) ?_
 refine Ev.congr (f := fun _ => some (six (⟨0, 0, 0, []⟩, σ.2.2.2.2.2.2.2.2.2, errOf σ))) (fun k => ?_) (Ev.now _)
 unfold parseJ
 rw [expr_Parse.j0, if_neg (show ¬ σ.2.2.2.2.2.2.2.2.1 = 0 from h)]
 rfl
theorem parseJ_ok {σ : PS} {x : S28} (h : errOf σ = 0) (hx : tsize x ≤ 1000000000) : Ev (fun k => parseJ k l σ x) (six (if treeErr l x = 0 then (x, 0, 0) else (⟨0, 0, 0, []⟩, 0, treeErr l x))) := by
 refine Ev.step (fun k => rfl) ?_
 refine Ev.congr (f := fun k => (checkF k l x).bind fun t => if t = 0 then some (x.f0, x.f1, x.f2, x.f3, 0, 0) else some (0, 0, 0, [], 0, t)) (fun k => ?_) ?_
 ·unfold parseJ
  rw [expr_Parse.j0, if_pos (show σ.2.2.2.2.2.2.2.2.1 = 0 from h)]
  cases x
  rfl
 ·refine Ev.bind (check_ev l x hx) ?_
  by_cases hq : treeErr l x = 0
  ·rw [if_pos hq, hq]; exact Ev.now _
  ·rw [if_neg hq, if_neg hq]
   exact Ev.now _
theorem parse_sim (hs : s.size ≤ 2000) (hl : l.length ≤ 1000) {n : Nat} {r : Rs} (h : aOr l (L s) n 0 (nx (L s) 0) = some r) : Ev (fun k => expr_Parse.f k l s) (six (tell l (L s) r)) := by
 have hL : (L s).length = s.size := L_len s
 have hf : nx (L s) 0 ≤ s.size := by have := nx_le (L s) 0 (by omega); omega
 have o := (sim hs hl n).or 0 _ r hf (by omega) h
 unfold expr_Parse.f
 refine Ev.congr (fun k => by rw [if_neg (show ¬ (s.size : Int) > 2000 by omega)]) ?_
 refine Ev.bind (next_ev l s hs 0 (by omega) 0 0 (⟨#[]⟩ : ByteArray) 0 0 0 0 0) ?_
 cases r with
 | err e p =>
  obtain ⟨o1, x, g, o2, o3⟩ := o
  refine Ev.bind (g := fun k => orW k l (st s (nx (L s) 0) 0 0 0)) o3 ?_
  show Ev (fun k => if (st s g ((0 : Nat) : Int) e p).2.2.2.1 = 1 then parseJ k l (st s g ((0 : Nat) : Int) e p) x else _) (six (⟨0, 0, 0, []⟩, (p : Int), e))
  have hj := parseJ_err (l := l) (σ := st s g ((0 : Nat) : Int) e p) x o1
  by_cases hk : (st s g ((0 : Nat) : Int) e p).2.2.2.1 = 1
  ·exact Ev.congr (fun k => by rw [if_pos hk]) hj
  ·refine Ev.congr (f := fun k => parseJ k l (st s g ((0 : Nat) : Int) e p) x) (fun k => ?_) hj
   rw [if_neg hk, wrong_eq, Option.bind_some]
   show parseJ k l (wrongS (st s g ((0 : Nat) : Int) e p) 1) x = _
   rw [wrong_no o1]
 | ok x g =>
  have hb := (bnd l (L s) n).or _ _ _ _ (by omega) h
  refine Ev.bind (g := fun k => orW k l (st s (nx (L s) 0) 0 0 0)) o.2 ?_
  show Ev (fun k => if (st s g ((0 : Nat) : Int) 0 0).2.2.2.1 = 1 then parseJ k l (st s g ((0 : Nat) : Int) 0 0) x else _) (six (tell l (L s) (.ok x g)))
  obtain ⟨t, m, ht⟩ : ∃ t m, tokAt ((L s).drop g) = (t, m) := ⟨_, _, rfl⟩
  have hK := st_K (d := ((0 : Nat) : Int)) (e := 0) (p := 0) ht
  have et : tell l (L s) (.ok x g) = if (tokAt ((L s).drop g)).1.isEof then (if treeErr l x = 0 then (x, 0, 0) else (⟨0, 0, 0, []⟩, 0, treeErr l x)) else (⟨0, 0, 0, []⟩, (g : Int), 1) := rfl
  rw [et, ht]
  by_cases hk : t.K = 1
  ·have he : t.isEof = true := by
    cases t with
    | eof => rfl
    | _ => simp [Tk.K] at hk
   rw [if_pos he]
   exact Ev.congr (fun k => by rw [if_pos (hK.trans hk)]) (parseJ_ok rfl (by omega))
  ·have he : ¬ t.isEof = true := by
    cases t with
    | eof => exact absurd rfl hk
    | _ => simp [Tk.isEof]
   rw [if_neg he]
   have hj := parseJ_err (l := l) (σ := st s g ((0 : Nat) : Int) 1 g) x (by show (1 : Int) ≠ 0; decide)
   refine Ev.congr (f := fun k => parseJ k l (st s g ((0 : Nat) : Int) 1 g) x) (fun k => ?_) hj
   rw [if_neg (fun q => hk (hK.symm.trans q)), wrong_eq, Option.bind_some]
   rfl
theorem parse_long (h : 2000 < s.size) : ∀ k, expr_Parse.f k l s = some (six (⟨0, 0, 0, []⟩, 0, 2)) := fun k => by
 unfold expr_Parse.f
 rw [if_pos (by omega)]
 rfl
end
end Go.Proofs.YtodbnnfiadcbaaaL
namespace Go.Proofs.YtodbnnfiadcbaaaL
open Go.RowKit Go.Proofs.Ytodbnnfiadcbaaa.P Go.Proofs.YtodbnnfiadcbaaaW.PrintWords Go.Proofs.YtodbnnfiadcbaaaW.PrintLast Go.Proofs.YtodbnnfiadcbaaaW.PrintMore
set_option linter.unusedSimpArgs false
set_option linter.unusedVariables false
inductive Star (R : Nat → Nat → Prop) (i : Nat) : Nat → Prop
 | refl : Star R i i
 | step {j k : Nat} : Star R i j → R j k → Star R i k
theorem Star.trans {R : Nat → Nat → Prop} {i j k : Nat} (h : Star R i j) (h2 : Star R j k) : Star R i k := by
 induction h2 with
 | refl => exact h
 | step _ hr ih => exact .step ih hr
mutual
def inT (w : List Int) : S28 → Nat → Nat → Prop
 | ⟨k, a, b, xs⟩, i, j =>
  if k = 2 then i = j
  else if k = 3 then w[i]? = some a ∧ j = i + 1
  else if k = 4 then xs.length = 1 ∧ w[i]? = some a ∧ ∃ m, orT w xs (i + 1) m ∧ w[m]? = some b ∧ j = m + 1
  else if k = 5 then catT w xs i j
  else if k = 6 then orT w xs i j
  else if k = 7 then (if xs.length = 1 then Star (orT w xs) i j else i = j)
  else False
def orT (w : List Int) : List S28 → Nat → Nat → Prop
 | [], _, _ => False
 | x :: xs, i, j => inT w x i j ∨ orT w xs i j
def catT (w : List Int) : List S28 → Nat → Nat → Prop
 | [], i, j => i = j
 | x :: xs, i, j => ∃ m, inT w x i m ∧ catT w xs m j
end
theorem inT_eq (w : List Int) (e : S28) (i j : Nat) : inT w e i j = (if e.f0 = 2 then i = j
 else if e.f0 = 3 then w[i]? = some e.f1 ∧ j = i + 1
 else if e.f0 = 4 then e.f3.length = 1 ∧ w[i]? = some e.f1 ∧ ∃ m, orT w e.f3 (i + 1) m ∧ w[m]? = some e.f2 ∧ j = m + 1
 else if e.f0 = 5 then catT w e.f3 i j
 else if e.f0 = 6 then orT w e.f3 i j
 else if e.f0 = 7 then (if e.f3.length = 1 then Star (orT w e.f3) i j else i = j)
 else False) := by cases e; rw [inT]
theorem orT_one (w : List Int) (x : S28) (i j : Nat) : orT w [x] i j ↔ inT w x i j := by rw [orT, orT]; simp
theorem star_le {R : Nat → Nat → Prop} {m : Nat} (h : ∀ i j, i ≤ m → R i j → i ≤ j ∧ j ≤ m) {i j : Nat} (hi : i ≤ m) (hs : Star R i j) : i ≤ j ∧ j ≤ m := by
 induction hs with
 | refl => exact ⟨Nat.le_refl _, hi⟩
 | step _ hr ih => have := h _ _ ih.2 hr; omega
theorem lt_of_get {w : List Int} {i : Nat} {a : Int} (h : w[i]? = some a) : i < w.length := (List.getElem?_eq_some_iff.mp h).1
mutual
theorem inT_le (w : List Int) : ∀ (e : S28) (i j : Nat), i ≤ w.length → inT w e i j → i ≤ j ∧ j ≤ w.length
 | ⟨k, a, b, xs⟩, i, j, hi, h => by
  have ho := orT_le w xs
  have hc := catT_le w xs
  rw [inT] at h
  split at h
  ·omega
  split at h
  ·have := lt_of_get h.1; omega
  split at h
  ·obtain ⟨_, h1, m, h2, h3, rfl⟩ := h
   have := lt_of_get h1
   have := lt_of_get h3
   have := ho _ _ (by omega) h2
   omega
  split at h
  ·exact hc _ _ hi h
  split at h
  ·exact ho _ _ hi h
  split at h
  ·split at h
   ·exact star_le ho hi h
   ·omega
  ·exact h.elim
theorem orT_le (w : List Int) : ∀ (xs : List S28) (i j : Nat), i ≤ w.length → orT w xs i j → i ≤ j ∧ j ≤ w.length
 | [], i, j, hi, h => by rw [orT] at h; exact h.elim
 | x :: xs, i, j, hi, h => by
  rw [orT] at h
  rcases h with h | h
  ·exact inT_le w x i j hi h
  ·exact orT_le w xs i j hi h
theorem catT_le (w : List Int) : ∀ (xs : List S28) (i j : Nat), i ≤ w.length → catT w xs i j → i ≤ j ∧ j ≤ w.length
 | [], i, j, hi, h => by rw [catT] at h; omega
 | x :: xs, i, j, hi, h => by
  rw [catT] at h
  obtain ⟨m, h1, h2⟩ := h
  have a := inT_le w x i m hi h1
  have b := catT_le w xs m j a.2 h2
  omega
end
/-! ### rows of places -/
def RowP (n : Nat) (row : List Bool) (P : Nat → Prop) : Prop := row.length = n + 1 ∧ ∀ j, row.getD j false = true ↔ (j ≤ n ∧ P j)
theorem rdOf_nat (row : List Bool) (j : Nat) : rdOf false row (j : Int) = row.getD j false := by unfold rdOf; rw [Int.toNat_natCast]
theorem getD_set (row : List Bool) (i j : Nat) (b : Bool) (h : i < row.length) : (row.set i b).getD j false = if i = j then b else row.getD j false := by
 rw [List.getD_eq_getElem?_getD, List.getD_eq_getElem?_getD, List.getElem?_set]
 by_cases e : i = j
 ·subst e; simp [h]
 ·simp [e]
theorem RowP.empty (n : Nat) : RowP n (List.replicate (n + 1) false) fun _ => False := by
 refine ⟨by simp, fun j => ?_⟩
 rw [List.getD_eq_getElem?_getD, List.getElem?_replicate]
 by_cases h : j < n + 1
 ·rw [if_pos h]; simp
 ·rw [if_neg h]; simp
theorem RowP.set {n : Nat} {row : List Bool} {P : Nat → Prop} (h : RowP n row P) {i : Nat} (hi : i ≤ n) : RowP n (row.set i true) fun j => P j ∨ j = i := by
 refine ⟨by rw [List.length_set]; exact h.1, fun j => ?_⟩
 rw [getD_set _ _ _ _ (by rw [h.1]; omega)]
 by_cases e : i = j
 ·subst e; simp [hi]
 ·rw [if_neg e, h.2 j]
  constructor
  ·exact fun q => ⟨q.1, .inl q.2⟩
  ·rintro ⟨q1, q2 | q2⟩
   ·exact ⟨q1, q2⟩
   ·exact absurd q2.symm e
theorem RowP.iff {n : Nat} {row : List Bool} {P Q : Nat → Prop} (h : RowP n row P) (hq : ∀ j, j ≤ n → (P j ↔ Q j)) : RowP n row Q :=
 ⟨h.1, fun j => by rw [h.2 j]; exact ⟨fun q => ⟨q.1, (hq j q.1).mp q.2⟩, fun q => ⟨q.1, (hq j q.1).mpr q.2⟩⟩⟩
theorem join_l0 (m : List Bool) (hm : m.length ≤ 1000000000) : ∀ (d i : Nat) (on : List Bool), i + d = m.length → on.length = m.length →
 ∃ r, expr_join.l0 (d + 1) on m (m.length : Int) (i : Int) = some r ∧ r.length = m.length ∧ ∀ j, r.getD j false = (on.getD j false || (decide (i ≤ j) && m.getD j false)) := by
 intro d
 induction d with
 | zero =>
  intro i on hi hl
  refine ⟨on, by rw [expr_join.l0, if_neg (by omega)], hl, fun j => ?_⟩
  by_cases h : i ≤ j
  ·have : m.getD j false = false := by rw [List.getD_eq_getElem?_getD, List.getElem?_eq_none (by omega)]; rfl
   rw [this]; simp
  ·simp [h]
 | succ d ih =>
  intro i on hi hl
  have hlt : i < m.length := by omega
  have step : ∀ b : Bool, (b = true ↔ (on.getD i false = true ∨ m.getD i false = true)) → ∃ r, expr_join.l0 (d + 1) (on.set i b) m (m.length : Int) ((i + 1 : Nat) : Int) = some r ∧ r.length = m.length ∧ ∀ j, r.getD j false = (on.getD j false || (decide (i ≤ j) && m.getD j false)) := by
   intro b hb
   obtain ⟨r, h1, h2, h3⟩ := ih (i + 1) (on.set i b) (by omega) (by rw [List.length_set]; exact hl)
   refine ⟨r, h1, h2, fun j => ?_⟩
   rw [h3 j, getD_set _ _ _ _ (by omega)]
   by_cases e : i = j
   ·subst e
    rw [if_pos rfl, decide_eq_false (by omega), decide_eq_true (Nat.le_refl _), Bool.false_and, Bool.or_false, Bool.true_and]
    rw [Bool.eq_iff_iff, hb, Bool.or_eq_true]
   ·rw [if_neg e]
    congr 2
    exact decide_eq_decide.mpr (by omega)
  by_cases h : rdOf false on (i : Int) = true
  ·obtain ⟨r, h1, h2⟩ := step true (by rw [rdOf_nat] at h; exact ⟨fun _ => .inl h, fun _ => rfl⟩)
   refine ⟨r, ?_, h2⟩
   rw [expr_join.l0, if_pos (by omega), if_pos (by omega), if_pos (by omega), if_pos (by omega), if_pos h, Int.toNat_natCast, wrap_suc i m.length hlt hm]
   exact h1
  ·obtain ⟨r, h1, h2⟩ := step (m.getD i false) (by rw [rdOf_nat] at h; exact ⟨fun q => .inr q, fun q => q.elim (fun q => absurd q h) id⟩)
   refine ⟨r, ?_, h2⟩
   rw [expr_join.l0, if_pos (by omega), if_pos (by omega), if_pos (by omega), if_pos (by omega), if_neg h, Int.toNat_natCast, rdOf_nat, wrap_suc i m.length hlt hm]
   exact h1
theorem join_row {n : Nat} (hn : n ≤ 100000000) {on m : List Bool} {P Q : Nat → Prop} (ho : RowP n on P) (hm : RowP n m Q) : ∃ r, expr_join.f (m.length + 2) on m = some r ∧ RowP n r fun j => P j ∨ Q j := by
 obtain ⟨r, h1, h2, h3⟩ := join_l0 m (by rw [hm.1]; omega) m.length 0 on (by omega) (by rw [ho.1, hm.1])
 refine ⟨r, expr_join.mono_l (m.length + 1) _ _ _ _ r h1, by rw [h2, hm.1], fun j => ?_⟩
 rw [h3 j, Bool.or_eq_true, Bool.and_eq_true, ho.2 j, hm.2 j]
 simp
 constructor
 ·rintro (⟨a, b⟩ | ⟨a, b⟩)
  ·exact ⟨a, .inl b⟩
  ·exact ⟨a, .inr b⟩
 ·rintro ⟨a, b | b⟩
  ·exact .inl ⟨a, b⟩
  ·exact .inr ⟨a, b⟩
end Go.Proofs.YtodbnnfiadcbaaaL
namespace Go.Proofs.YtodbnnfiadcbaaaL
open Go.RowKit Go.Proofs.Ytodbnnfiadcbaaa.P Go.Proofs.YtodbnnfiadcbaaaW.PrintWords Go.Proofs.YtodbnnfiadcbaaaW.PrintLast Go.Proofs.YtodbnnfiadcbaaaW.PrintMore
set_option linter.unusedSimpArgs false
set_option linter.unusedVariables false
section
variable (w : List Int) (hw : w.length ≤ 1000000)
theorem isB_iff (i : Nat) (a : Int) : Go.Proofs.Ytodbnnfiadcbaaa.P.isB w i a = true ↔ w[i]? = some a := by
 unfold Go.Proofs.Ytodbnnfiadcbaaa.P.isB
 rw [Bool.and_eq_true, decide_eq_true_eq, beq_iff_eq]
 constructor
 ·rintro ⟨h1, h2⟩
  rw [List.getElem?_eq_getElem h1, ← h2]
  congr 1
  simp [rd, h1]
 ·intro h
  obtain ⟨h1, h2⟩ := List.getElem?_eq_some_iff.mp h
  exact ⟨h1, by rw [← h2]; simp [rd, h1]⟩
theorem nest_row (fin : Int) : ∀ (bs : List Bool) (k : Nat) (out : List Bool) (P : Nat → Prop), k + bs.length = w.length + 1 → RowP w.length out P → RowP w.length (nestL w fin bs k out) fun j => P j ∨ ∃ i, k ≤ i ∧ bs.getD (i - k) false = true ∧ w[i]? = some fin ∧ j = i + 1
 | [], k, out, P, hk, h => by
  rw [nestL]
  refine h.iff fun j _ => ?_
  simp
 | b :: bs, k, out, P, hk, h => by
  rw [nestL]
  rw [List.length_cons] at hk
  have shift : ∀ (j : Nat) (Q : Nat → Prop), (∃ i, k ≤ i ∧ (b :: bs).getD (i - k) false = true ∧ Q i) ↔ ((b = true ∧ Q k) ∨ ∃ i, k + 1 ≤ i ∧ bs.getD (i - (k + 1)) false = true ∧ Q i) := fun j Q => by
   constructor
   ·rintro ⟨i, h1, h2, h3⟩
    by_cases e : i = k
    ·subst e
     rw [Nat.sub_self] at h2
     exact .inl ⟨h2, h3⟩
    ·rw [show i - k = (i - (k + 1)) + 1 by omega] at h2
     exact .inr ⟨i, by omega, h2, h3⟩
   ·rintro (⟨h1, h2⟩ | ⟨i, h1, h2, h3⟩)
    ·exact ⟨k, Nat.le_refl _, by rw [Nat.sub_self]; exact h1, h2⟩
    ·exact ⟨i, by omega, by rw [show i - k = (i - (k + 1)) + 1 by omega]; exact h2, h3⟩
  by_cases hb : (b && Go.Proofs.Ytodbnnfiadcbaaa.P.isB w k fin) = true
  ·rw [if_pos hb]
   rw [Bool.and_eq_true, isB_iff] at hb
   have hkl := lt_of_get hb.2
   refine (nest_row fin bs (k + 1) _ _ (by omega) (h.set (i := k + 1) (by omega))).iff fun j _ => ?_
   rw [shift j (fun i => w[i]? = some fin ∧ j = i + 1)]
   constructor
   ·rintro ((q | q) | q)
    ·exact .inl q
    ·exact .inr (.inl ⟨hb.1, hb.2, q⟩)
    ·exact .inr (.inr q)
   ·rintro (q | ⟨_, _, q⟩ | q)
    ·exact .inl (.inl q)
    ·exact .inl (.inr q)
    ·exact .inr q
  ·rw [if_neg hb]
   rw [Bool.and_eq_true, isB_iff] at hb
   refine (nest_row fin bs (k + 1) _ _ (by omega) h).iff fun j _ => ?_
   rw [shift j (fun i => w[i]? = some fin ∧ j = i + 1)]
   constructor
   ·rintro (q | q)
    ·exact .inl q
    ·exact .inr (.inr q)
   ·rintro (q | ⟨q1, q2, _⟩ | q)
    ·exact .inl q
    ·exact absurd ⟨q1, q2⟩ hb
    ·exact .inr q
include hw
theorem orL_ev (at_ : Nat) : ∀ (cs : List S28) (out : List Bool) (P : Nat → Prop), (∀ c ∈ cs, ∃ m, Ev (fun k => endF k c at_ w) m ∧ RowP w.length m (inT w c at_)) → RowP w.length out P → ∃ r, Ev (fun k => Go.Proofs.Ytodbnnfiadcbaaa.P.orL (fun c => endF k c at_ w) cs out) r ∧ RowP w.length r fun j => P j ∨ orT w cs at_ j
 | [], out, P, _, h => ⟨out, Ev.congr (f := fun _ => some out) (fun k => by rw [Go.Proofs.Ytodbnnfiadcbaaa.P.orL]) (Ev.now _), h.iff fun j _ => by rw [orT]; simp⟩
 | c :: cs, out, P, hc, h => by
  obtain ⟨m, h1, h2⟩ := hc c (by simp)
  obtain ⟨o, h3, h4⟩ := join_row (by omega) h h2
  obtain ⟨r, h5, h6⟩ := orL_ev at_ cs o _ (fun x hx => hc x (by simp [hx])) h4
  refine ⟨r, ?_, h6.iff fun j _ => by rw [orT, or_assoc]⟩
  refine Ev.congr (fun k => by rw [Go.Proofs.Ytodbnnfiadcbaaa.P.orL]) ?_
  refine Ev.bind h1 ?_
  exact Ev.congr (fun k => by rw [h3, Option.bind_some]) h5
theorem catRow_ev (c : S28) (hc : ∀ j, j ≤ w.length → ∃ m, Ev (fun k => endF k c j w) m ∧ RowP w.length m (inT w c j)) : ∀ (bs : List Bool) (k : Nat) (next : List Bool) (P : Nat → Prop), k + bs.length = w.length + 1 → RowP w.length next P → ∃ r, Ev (fun K => catRow (fun j => endF K c j w) bs k next) r ∧ RowP w.length r fun j => P j ∨ ∃ i, k ≤ i ∧ bs.getD (i - k) false = true ∧ inT w c i j
 | [], k, next, P, hk, h => ⟨next, Ev.congr (f := fun _ => some next) (fun k => by rw [catRow]) (Ev.now _), h.iff fun j _ => by simp⟩
 | b :: bs, k, next, P, hk, h => by
  rw [List.length_cons] at hk
  have shift : ∀ (Q : Nat → Prop), (∃ i, k ≤ i ∧ (b :: bs).getD (i - k) false = true ∧ Q i) ↔ ((b = true ∧ Q k) ∨ ∃ i, k + 1 ≤ i ∧ bs.getD (i - (k + 1)) false = true ∧ Q i) := fun Q => by
   constructor
   ·rintro ⟨i, h1, h2, h3⟩
    by_cases e : i = k
    ·subst e
     rw [Nat.sub_self] at h2
     exact .inl ⟨h2, h3⟩
    ·rw [show i - k = (i - (k + 1)) + 1 by omega] at h2
     exact .inr ⟨i, by omega, h2, h3⟩
   ·rintro (⟨h1, h2⟩ | ⟨i, h1, h2, h3⟩)
    ·exact ⟨k, Nat.le_refl _, by rw [Nat.sub_self]; exact h1, h2⟩
    ·exact ⟨i, by omega, by rw [show i - k = (i - (k + 1)) + 1 by omega]; exact h2, h3⟩
  by_cases hb : b = true
  ·obtain ⟨m, h1, h2⟩ := hc k (by omega)
   obtain ⟨o, h3, h4⟩ := join_row (by omega) h h2
   obtain ⟨r, h5, h6⟩ := catRow_ev c hc bs (k + 1) o _ (by omega) h4
   refine ⟨r, ?_, h6.iff fun j _ => ?_⟩
   ·refine Ev.congr (fun k => by rw [catRow, if_pos hb]) ?_
    refine Ev.bind h1 ?_
    exact Ev.congr (fun k => by rw [h3, Option.bind_some]) h5
   ·rw [shift fun i => inT w c i j]
    constructor
    ·rintro ((q | q) | q)
     ·exact .inl q
     ·exact .inr (.inl ⟨hb, q⟩)
     ·exact .inr (.inr q)
    ·rintro (q | ⟨_, q⟩ | q)
     ·exact .inl (.inl q)
     ·exact .inl (.inr q)
     ·exact .inr q
  ·obtain ⟨r, h5, h6⟩ := catRow_ev c hc bs (k + 1) next _ (by omega) h
   refine ⟨r, Ev.congr (fun k => by rw [catRow, if_neg hb]) h5, h6.iff fun j _ => ?_⟩
   rw [shift fun i => inT w c i j]
   constructor
   ·rintro (q | q)
    ·exact .inl q
    ·exact .inr (.inr q)
   ·rintro (q | ⟨q1, _⟩ | q)
    ·exact .inl q
    ·exact absurd q1 hb
    ·exact .inr q
theorem catL_ev : ∀ (cs : List S28) (out : List Bool) (P : Nat → Prop), (∀ c ∈ cs, ∀ j, j ≤ w.length → ∃ m, Ev (fun k => endF k c j w) m ∧ RowP w.length m (inT w c j)) → RowP w.length out P → ∃ r, Ev (fun K => Go.Proofs.Ytodbnnfiadcbaaa.P.catL (fun c j => endF K c j w) cs out) r ∧ RowP w.length r fun j => ∃ i, i ≤ w.length ∧ P i ∧ catT w cs i j
 | [], out, P, _, h => ⟨out, Ev.congr (f := fun _ => some out) (fun k => by rw [Go.Proofs.Ytodbnnfiadcbaaa.P.catL]) (Ev.now _), h.iff fun j hj => by
  simp only [catT]
  constructor
  ·exact fun q => ⟨j, hj, q, rfl⟩
  ·rintro ⟨i, _, q, rfl⟩; exact q⟩
 | c :: cs, out, P, hc, h => by
  obtain ⟨o, h1, h2⟩ := catRow_ev w hw c (hc c (by simp)) out 0 _ _ (by rw [h.1]; omega) (RowP.empty w.length)
  obtain ⟨r, h5, h6⟩ := catL_ev cs o _ (fun x hx => hc x (by simp [hx])) h2
  refine ⟨r, ?_, h6.iff fun j _ => ?_⟩
  ·refine Ev.congr (fun k => by rw [Go.Proofs.Ytodbnnfiadcbaaa.P.catL, h.1]) ?_
   exact Ev.bind h1 h5
  ·constructor
   ·rintro ⟨i, hi, (q | ⟨m, _, q2, q3⟩), q4⟩
    ·exact q.elim
    ·rw [Nat.sub_zero, h.2 m] at q2
     exact ⟨m, q2.1, q2.2, by rw [catT]; exact ⟨i, q3, q4⟩⟩
   ·rintro ⟨m, hm, q1, q2⟩
    rw [catT] at q2
    obtain ⟨i, q3, q4⟩ := q2
    exact ⟨i, (inT_le w c m i hm q3).2, .inr ⟨m, Nat.zero_le _, by rw [Nat.sub_zero, h.2 m]; exact ⟨hm, q1⟩, q3⟩, q4⟩
theorem starL_ev (c : S28) (at_ : Nat) (hc : ∀ j, j ≤ w.length → ∃ m, Ev (fun k => endF k c j w) m ∧ RowP w.length m (inT w c j)) : ∀ (d k n : Nat) (out : List Bool) (P : Nat → Prop), k + d = w.length + 1 → d < n → RowP w.length out P → P at_ → (∀ j, P j → Star (inT w c) at_ j) → (∀ i j, i < k → i ≤ w.length → P i → inT w c i j → P j) → at_ ≤ w.length →
 ∃ r, Ev (fun K => starL (fun j => endF K c j w) n k out) r ∧ RowP w.length r (Star (inT w c) at_) := by
 intro d
 induction d with
 | zero =>
  intro k n out P hk hn h h0 h1 h2 ha
  obtain ⟨n, rfl⟩ : ∃ m, n = m + 1 := ⟨n - 1, by omega⟩
  refine ⟨out, Ev.congr (f := fun _ => some out) (fun K => by rw [starL, if_neg (by rw [h.1]; omega)]) (Ev.now _), h.iff fun j hj => ⟨h1 j, fun q => ?_⟩⟩
  clear hj
  induction q with
  | refl => exact h0
  | step q1 q2 ih =>
   have := star_le (fun i j hi hr => inT_le w c i j hi hr) ha q1
   exact h2 _ _ (by omega) this.2 ih q2
 | succ d ih =>
  intro k n out P hk hn h h0 h1 h2 ha
  obtain ⟨n, rfl⟩ : ∃ m, n = m + 1 := ⟨n - 1, by omega⟩
  have hkl : k < out.length := by rw [h.1]; omega
  by_cases hb : rdOf false out (k : Int) = true
  ·have hpk : P k := by rw [rdOf_nat, h.2 k] at hb; exact hb.2
   obtain ⟨m, h3, h4⟩ := hc k (by omega)
   obtain ⟨o, h5, h6⟩ := join_row (by omega) h h4
   obtain ⟨r, h7, h8⟩ := ih (k + 1) n o _ (by omega) (by omega) h6 (.inl h0) (fun j q => q.elim (h1 j) fun q => .step (h1 k hpk) q) (fun i j hi hil hp hr => by
    by_cases e : i = k
    ·subst e; exact .inr hr
    ·rcases hp with hp | hp
     ·exact .inl (h2 i j (by omega) hil hp hr)
     ·have := inT_le w c k i (by omega) hp
      omega) ha
   refine ⟨r, ?_, h8⟩
   refine Ev.congr (fun K => by rw [starL, if_pos hkl, if_pos hb]) ?_
   refine Ev.bind h3 ?_
   exact Ev.congr (fun K => by rw [h5, Option.bind_some]) h7
  ·have hpk : ¬ P k := fun q => hb (by rw [rdOf_nat, h.2 k]; exact ⟨by omega, q⟩)
   obtain ⟨r, h7, h8⟩ := ih (k + 1) n out P (by omega) (by omega) h h0 h1 (fun i j hi hil hp hr => by
    by_cases e : i = k
    ·subst e; exact absurd hp hpk
    ·exact h2 i j (by omega) hil hp hr) ha
   exact ⟨r, Ev.congr (fun K => by rw [starL, if_pos hkl, if_neg hb]) h7, h8⟩
theorem end_row : ∀ (n : Nat) (e : S28), tsize e ≤ n → ∀ at_, at_ ≤ w.length → ∃ row, Ev (fun k => endF k e at_ w) row ∧ RowP w.length row (inT w e at_)
 | 0, e, h, _, _ => by rw [tsize_eq] at h; omega
 | n + 1, e, h, at_, ha => by
  have hz := tsize_eq e
  have kid : ∀ c ∈ e.f3, ∀ j, j ≤ w.length → ∃ m, Ev (fun k => endF k c j w) m ∧ RowP w.length m (inT w c j) := fun c hc j hj => end_row n c (by have := tsize_mem hc; omega) j hj
  have start : ∀ k, endF (k + 1) e at_ w = _ := fun k => by rw [endF, if_pos ⟨ha, Nat.lt_of_le_of_lt hw (by decide)⟩]
  have hE := RowP.empty w.length
  have put : RowP w.length ((List.replicate (w.length + 1) false).set at_ true) fun j => at_ = j := (hE.set ha).iff fun j _ => ⟨fun q => q.elim (fun q => q.elim) Eq.symm, fun q => .inr q.symm⟩
  show ∃ row, Ev (fun k => endF k e at_ w) row ∧ RowP w.length row (fun j => inT w e at_ j)
  simp only [inT_eq w e at_]
  by_cases k2 : e.f0 = 2
  ·refine ⟨_, Ev.step start (Ev.congr (f := fun _ => some ((List.replicate (w.length + 1) false).set at_ true)) (fun k => by rw [if_pos k2]) (Ev.now _)), ?_⟩
   refine put.iff fun j _ => ?_
   rw [if_pos k2]
  by_cases k3 : e.f0 = 3
  ·by_cases hb : Go.Proofs.Ytodbnnfiadcbaaa.P.isB w at_ e.f1 = true
   ·have hq := (isB_iff w at_ e.f1).mp hb
    have := lt_of_get hq
    refine ⟨_, Ev.step start (Ev.congr (f := fun _ => some ((List.replicate (w.length + 1) false).set (at_ + 1) true)) (fun k => by rw [if_neg k2, if_pos k3, if_pos hb]) (Ev.now _)), ?_⟩
    refine (hE.set (i := at_ + 1) (by omega)).iff fun j _ => ?_
    rw [if_neg k2, if_pos k3]
    simp [hq]
   ·refine ⟨_, Ev.step start (Ev.congr (f := fun _ => some (List.replicate (w.length + 1) false)) (fun k => by rw [if_neg k2, if_pos k3, if_neg hb]) (Ev.now _)), ?_⟩
    refine hE.iff fun j _ => ?_
    rw [if_neg k2, if_pos k3]
    rw [isB_iff] at hb
    simp [hb]
  by_cases k4 : e.f0 = 4
  ·by_cases hb : e.f3.length = 1 ∧ Go.Proofs.Ytodbnnfiadcbaaa.P.isB w at_ e.f1 = true
   ·obtain ⟨x, hx⟩ := List.length_eq_one_iff.mp hb.1
    have hq := (isB_iff w at_ e.f1).mp hb.2
    have := lt_of_get hq
    obtain ⟨m, h1, h2⟩ := kid x (by rw [hx]; simp) (at_ + 1) (by omega)
    have hn := nest_row w e.f2 m 0 _ _ (by rw [h2.1]; omega) hE
    refine ⟨_, Ev.step start (Ev.congr (fun k => by rw [if_neg k2, if_neg k3, if_pos k4, if_pos hb, hx]; rfl) (Ev.bind h1 (Ev.now (nestL w e.f2 m 0 (List.replicate (w.length + 1) false))))), ?_⟩
    refine hn.iff fun j _ => ?_
    rw [if_neg k2, if_neg k3, if_pos k4]
    constructor
    ·rintro (q | ⟨i, _, q2, q3, q4⟩)
     ·exact q.elim
     ·rw [Nat.sub_zero, h2.2 i] at q2
      exact ⟨hb.1, hq, i, by rw [hx, orT_one]; exact q2.2, q3, q4⟩
    ·rintro ⟨_, _, i, q2, q3, q4⟩
     rw [hx, orT_one] at q2
     have := inT_le w x (at_ + 1) i (by omega) q2
     exact .inr ⟨i, Nat.zero_le _, by rw [Nat.sub_zero, h2.2 i]; exact ⟨this.2, q2⟩, q3, q4⟩
   ·refine ⟨_, Ev.step start (Ev.congr (f := fun _ => some (List.replicate (w.length + 1) false)) (fun k => by rw [if_neg k2, if_neg k3, if_pos k4, if_neg hb]) (Ev.now _)), ?_⟩
    refine hE.iff fun j _ => ?_
    rw [if_neg k2, if_neg k3, if_pos k4]
    constructor
    ·exact fun q => q.elim
    ·rintro ⟨q1, q2, _⟩
     exact hb ⟨q1, (isB_iff w at_ e.f1).mpr q2⟩
  by_cases k6 : e.f0 = 6
  ·obtain ⟨r, h1, h2⟩ := orL_ev w hw at_ e.f3 _ _ (fun c hc => kid c hc at_ ha) hE
   refine ⟨r, Ev.step start (Ev.congr (fun k => by rw [if_neg k2, if_neg k3, if_neg k4, if_pos k6]) h1), ?_⟩
   refine h2.iff fun j _ => ?_
   rw [if_neg k2, if_neg k3, if_neg k4, if_neg (by omega), if_pos k6]
   simp
  by_cases k5 : e.f0 = 5
  ·obtain ⟨r, h1, h2⟩ := catL_ev w hw e.f3 _ _ kid put
   refine ⟨r, Ev.step start (Ev.congr (fun k => by rw [if_neg k2, if_neg k3, if_neg k4, if_neg k6, if_pos k5]) h1), ?_⟩
   refine h2.iff fun j _ => ?_
   rw [if_neg k2, if_neg k3, if_neg k4, if_pos k5]
   constructor
   ·rintro ⟨i, _, rfl, q⟩; exact q
   ·exact fun q => ⟨at_, ha, rfl, q⟩
  by_cases k7 : e.f0 = 7
  ·by_cases hb : e.f3.length = 1
   ·obtain ⟨x, hx⟩ := List.length_eq_one_iff.mp hb
    obtain ⟨r, h1, h2⟩ := starL_ev w hw x at_ (kid x (by rw [hx]; simp)) (w.length + 1 - at_) at_ (w.length + 3) _ _ (by omega) (by omega) put rfl (fun j q => by subst q; exact .refl) (fun i j hi _ q => by omega) ha
    refine ⟨r, Ev.step start (Ev.congr (fun k => by rw [if_neg k2, if_neg k3, if_neg k4, if_neg k6, if_neg k5, if_pos k7, if_pos hb, hx]; rfl) h1), ?_⟩
    refine h2.iff fun j _ => ?_
    rw [if_neg k2, if_neg k3, if_neg k4, if_neg k5, if_neg k6, if_pos k7, if_pos hb, hx]
    have : orT w [x] = inT w x := by funext a b; exact propext (orT_one w x a b)
    rw [this]
   ·refine ⟨_, Ev.step start (Ev.congr (f := fun _ => some ((List.replicate (w.length + 1) false).set at_ true)) (fun k => by rw [if_neg k2, if_neg k3, if_neg k4, if_neg k6, if_neg k5, if_pos k7, if_neg hb]) (Ev.now _)), ?_⟩
    refine put.iff fun j _ => ?_
    rw [if_neg k2, if_neg k3, if_neg k4, if_neg k5, if_neg k6, if_pos k7, if_neg hb]
  ·refine ⟨_, Ev.step start (Ev.congr (f := fun _ => some (List.replicate (w.length + 1) false)) (fun k => by rw [if_neg k2, if_neg k3, if_neg k4, if_neg k6, if_neg k5, if_neg k7]) (Ev.now _)), ?_⟩
   refine hE.iff fun j _ => ?_
   rw [if_neg k2, if_neg k3, if_neg k4, if_neg k5, if_neg k6, if_neg k7]
theorem has_ev (e : S28) : ∃ b, Ev (fun k => hasF k e w) b ∧ (b = true ↔ inT w e 0 w.length) := by
 obtain ⟨row, h1, h2⟩ := end_row w hw _ e (Nat.le_refl _) 0 (Nat.zero_le _)
 refine ⟨rdOf false row (w.length : Int), ?_, by rw [rdOf_nat, h2.2]; simp⟩
 unfold hasF
 refine Ev.bind h1 ?_
 exact Ev.congr (f := fun _ => some (rdOf false row (w.length : Int))) (fun k => by rw [if_pos (by rw [h2.1]; omega)]) (Ev.now _)
end
end Go.Proofs.YtodbnnfiadcbaaaL
namespace Go.Proofs.YtodbnnfiadcbaaaL
open Go.RowKit Go.Proofs.Ytodbnnfiadcbaaa.P Go.Proofs.YtodbnnfiadcbaaaW.PrintWords Go.Proofs.YtodbnnfiadcbaaaW.PrintLast Go.Proofs.YtodbnnfiadcbaaaW.PrintMore
section
variable {w' v : List Int} {s : Nat} (hs : ∀ k, k < v.length → w'[s + k]? = v[k]?) (hl : s + v.length ≤ w'.length)
include hs hl
end
def HasW (e : S28) (w : List Int) : Prop := inT w e 0 w.length
theorem cat_snoc (w : List Int) (x : S28) : ∀ (xs : List S28) (i m j : Nat), catT w xs i m → inT w x m j → catT w (xs ++ [x]) i j
 | [], i, m, j, h, h2 => by rw [catT] at h; subst h; rw [List.nil_append, catT]; exact ⟨j, h2, by rw [catT]⟩
 | y :: ys, i, m, j, h, h2 => by
  rw [catT] at h
  obtain ⟨q, h3, h4⟩ := h
  rw [List.cons_append, catT]
  exact ⟨q, h3, cat_snoc w x ys q m j h4 h2⟩
theorem star_eq (a b : Int) (x : S28) (w : List Int) (i j : Nat) : inT w ⟨7, a, b, [x]⟩ i j = Star (orT w [x]) i j := by
 rw [inT, if_neg (by decide), if_neg (by decide), if_neg (by decide), if_neg (by decide), if_neg (by decide), if_pos rfl, if_pos (show [x].length = 1 from rfl)]
end Go.Proofs.YtodbnnfiadcbaaaL
namespace Go.Proofs.YtodbnnfiadcbaaaL
open Go.RowKit Go.Proofs.Ytodbnnfiadcbaaa.P Go.Proofs.YtodbnnfiadcbaaaW.PrintWords Go.Proofs.YtodbnnfiadcbaaaW.PrintLast Go.Proofs.YtodbnnfiadcbaaaW.PrintMore
def Lv : Nat → S28 → Prop
 | 0, e => e.f3 = []
 | d + 1, e => e.f3.length ≤ 3 ∧ ∀ x ∈ e.f3, Lv d x
theorem lv_leaf (d : Nat) (k a b : Int) : Lv d ⟨k, a, b, []⟩ := by
 cases d with
 | zero => rfl
 | succ d => exact ⟨Nat.zero_le _, fun x h => nomatch h⟩
theorem cat_unsnoc (w : List Int) (x : S28) : ∀ (xs : List S28) (i j : Nat), catT w (xs ++ [x]) i j → ∃ m, catT w xs i m ∧ inT w x m j
 | [], i, j, h => by
  rw [List.nil_append, catT] at h
  obtain ⟨m, h1, h2⟩ := h
  rw [catT] at h2
  subst h2
  exact ⟨i, by rw [catT], h1⟩
 | y :: ys, i, j, h => by
  rw [List.cons_append, catT] at h
  obtain ⟨q, h1, h2⟩ := h
  obtain ⟨m, h3, h4⟩ := cat_unsnoc w x ys q j h2
  exact ⟨m, by rw [catT]; exact ⟨q, h1, h3⟩, h4⟩
theorem hasC_eq (a b : Int) (xs : List S28) (w : List Int) (i j : Nat) : inT w ⟨5, a, b, xs⟩ i j = catT w xs i j := by
 rw [inT, if_neg (by decide), if_neg (by decide), if_neg (by decide), if_pos rfl]
end Go.Proofs.YtodbnnfiadcbaaaL
namespace Go.Proofs.YtodbnnfiadcbaaaL
open Go.RowKit Go.Proofs.Ytodbnnfiadcbaaa.P Go.Proofs.YtodbnnfiadcbaaaW.PrintWords Go.Proofs.YtodbnnfiadcbaaaW.PrintLast Go.Proofs.YtodbnnfiadcbaaaW.PrintMore
end Go.Proofs.YtodbnnfiadcbaaaL
namespace Go.Proofs.YtodbnnfiadcbaaaL
open Go.RowKit Go.Proofs.Ytodbnnfiadcbaaa.P Go.Proofs.YtodbnnfiadcbaaaW.PrintWords Go.Proofs.YtodbnnfiadcbaaaW.PrintLast Go.Proofs.YtodbnnfiadcbaaaW.PrintMore
set_option linter.unusedSimpArgs false
set_option linter.unusedVariables false
set_option linter.unusedSectionVars false
theorem tformedL_all : ∀ {xs : List S28}, (∀ z ∈ xs, tformed z = true) → tformedL xs = true
 | [], _ => by rw [tformedL]
 | x :: xs, h => by rw [tformedL, h x (by simp), tformedL_all (fun z hz => h z (by simp [hz]))]; rfl
theorem tbadL_all {l : List S56} : ∀ {xs : List S28}, (∀ z ∈ xs, tbad l z = false) → tbadL l xs = false
 | [], _ => by rw [tbadL]
 | x :: xs, h => by rw [tbadL, h x (by simp), tbadL_all (fun z hz => h z (by simp [hz]))]; rfl
theorem ofF_in {l : List S56} {i : Int} (h0 : 0 ≤ i) (h1 : i < (l.length : Int)) : ofF l i = (rd_T56 l i).f1 := by
 unfold ofF
 rw [if_neg (by omega), if_neg (by omega)]
theorem view_fit {l : List S56} (hk : kindsB l = true) {e : S28} (v : View l e) : Fit l e := by
 have mk : ∀ (k a b : Int) (xs : List S28), shF ⟨k, a, b, xs⟩ = true → ovNm l ⟨k, a, b, xs⟩ false = false → (∀ z ∈ xs, Fit l z) → Fit l ⟨k, a, b, xs⟩ := fun k a b xs h1 h2 h3 =>
  ⟨by rw [tformed, h1, tformedL_all (fun z hz => (h3 z hz).1)]; rfl, by rw [tbad, h2, tbadL_all (fun z hz => (h3 z hz).2)]; rfl⟩
 cases v with
 | none => exact mk _ _ _ _ rfl rfl (by simp)
 | void => exact mk _ _ _ _ rfl rfl (by simp)
 | sym a h0 h1 =>
  refine mk _ _ _ _ rfl ?_ (by simp)
  show (false || ofF l a == 0) = false
  rw [ofF_in h0 h1, Bool.false_or, beq_eq_false_iff_ne]
  rcases kind_of hk h0 h1 with q | q | q <;> rw [q] <;> decide
 | nest a b x a0 a1 a2 b0 b1 b2 hx =>
  refine mk _ _ _ _ rfl ?_ (by simpa using hx)
  show (false || (ofF l a != 1 || ofF l b != 2)) = false
  rw [ofF_in a0 a1, ofF_in b0 b1, a2, b2]
  rfl
 | cat x y xs h => exact mk _ _ _ _ (by simp [shF]) rfl h
 | or x y xs h => exact mk _ _ _ _ (by simp [shF]) rfl h
 | star x hx => exact mk _ _ _ _ rfl rfl (by simpa using hx)
section
variable (l : List S56) (ns : List Int) (hl : 0 < l.length) (hl2 : l.length ≤ 1000) (hk : kindsB l = true) (hn : ns.length ≤ 4611686018427387904)
include hl hl2 hk hn
theorem mnext_ev (at_ : Nat) (ha : at_ ≤ ns.length) (n : Int) (h0 : 0 < n) (h1 : n ≤ 1000000) : ∃ (v : Int) (a2 : Nat), a2 ≤ ns.length ∧ 0 ≤ v ∧ v < n ∧ canopylaw5_maker_next.f l ns (at_ : Int) n = some (v, (a2 : Int)) := by
 unfold canopylaw5_maker_next.f
 by_cases h : at_ = ns.length
 ·exact ⟨0, at_, by omega, by omega, h0, by rw [if_pos (by omega)]⟩
 ·have w1 : wrap64 ((at_ : Int) + 1) = ((at_ + 1 : Nat) : Int) := by unfold wrap64; omega
  have w2 : wrap64 (((at_ + 1 : Nat) : Int) - 1) = (at_ : Int) := by unfold wrap64; omega
  refine ⟨rd ns (at_ : Int) % n, at_ + 1, by omega, Int.emod_nonneg _ (by omega), Int.emod_lt_of_pos _ h0, ?_⟩
  rw [if_neg (by omega), w1, w2, if_pos (by omega), if_pos (by omega), within_eq _ _ h0 h1, Option.bind_some]
theorem pick_l0 (kind v : Int) (hv : 0 ≤ v) (hv2 : v < (l.length : Int)) (A : Int) : ∀ (d i : Nat), i + d = l.length → ∃ r : Int, (0 ≤ r → r < (l.length : Int) ∧ (rd_T56 l r).f1 = kind) ∧ Ev (fun k => canopylaw5_maker_pick.l0 k kind v (i : Int) l ns A) (r, A) := by
 intro d
 induction d with
 | zero =>
  intro i hi
  refine ⟨-1, fun h => by omega, Ev.step (fun k => rfl) ?_⟩
  exact Ev.congr (f := fun _ => some (-1, A)) (fun k => by rw [canopylaw5_maker_pick.l0, if_neg (by omega)]) (Ev.now _)
 | succ d ih =>
  intro i hi
  have w : wrap64 (v + (i : Int)) = v + i := by unfold wrap64; omega
  have t0 : Int.tmod (v + (i : Int)) (l.length : Int) = (v + i) % (l.length : Int) := Int.tmod_eq_emod_of_nonneg (by omega)
  have m0 := Int.emod_nonneg (v + (i : Int)) (show ((l.length : Nat) : Int) ≠ 0 by omega)
  have m1 := Int.emod_lt_of_pos (v + (i : Int)) (show (0 : Int) < ((l.length : Nat) : Int) by omega)
  have st : ∀ k, canopylaw5_maker_pick.l0 (k + 1) kind v (i : Int) l ns A = if (rd_T56 l ((v + (i : Int)) % (l.length : Int))).f1 = kind then some ((v + (i : Int)) % (l.length : Int), A) else canopylaw5_maker_pick.l0 k kind v (wrap64 ((i : Int) + 1)) l ns A := fun k => by
   rw [canopylaw5_maker_pick.l0, if_pos (by omega), if_neg (by omega), w, t0, if_pos m0, if_pos m1]
  by_cases h : (rd_T56 l ((v + (i : Int)) % (l.length : Int))).f1 = kind
  ·exact ⟨_, fun _ => ⟨m1, h⟩, Ev.step st (Ev.congr (f := fun _ => some ((v + (i : Int)) % (l.length : Int), A)) (fun k => by rw [if_pos h]) (Ev.now _))⟩
  ·obtain ⟨r, hp, hr⟩ := ih (i + 1) (by omega)
   refine ⟨r, hp, Ev.step st (Ev.congr (fun k => by rw [if_neg h, wrap_suc i l.length (by omega) (by omega)]) hr)⟩
theorem pick_ev (at_ : Nat) (ha : at_ ≤ ns.length) (kind : Int) : ∃ (r : Int) (a2 : Nat), (0 ≤ r → r < (l.length : Int) ∧ (rd_T56 l r).f1 = kind) ∧ a2 ≤ ns.length ∧ Ev (fun k => canopylaw5_maker_pick.f k l ns (at_ : Int) kind) (r, (a2 : Int)) := by
 obtain ⟨v, a2, h1, h2, h3, h4⟩ := mnext_ev l ns hl hl2 hk hn at_ ha (l.length : Int) (by omega) (by omega)
 obtain ⟨r, hp, hr⟩ := pick_l0 l ns hl hl2 hk hn kind v h2 h3 (a2 : Int) l.length 0 (by omega)
 refine ⟨r, a2, hp, h1, ?_⟩
 unfold canopylaw5_maker_pick.f
 rw [h4]
 exact hr
def drawn (e : S28) (a : Nat) : Int × Int × Int × List S28 × Int := (e.f0, e.f1, e.f2, e.f3, (a : Int))
def Drew (l : List S56) (F : Nat → Option (Int × Int × Int × List S28 × Int)) (m b : Nat) : Prop := ∃ (e : S28) (a : Nat), a ≤ m ∧ ((tsize e ≤ 4 ^ b ∧ Lv b e) ∧ Fit l e) ∧ Ev F (drawn e a)
omit hl hl2 hk hn in
theorem Drew.step {F G : Nat → Option (Int × Int × Int × List S28 × Int)} {m b : Nat} (h : ∀ k, F (k + 1) = G k) (d : Drew l G m b) : Drew l F m b := by
 obtain ⟨e, a, h1, h2, h3⟩ := d
 exact ⟨e, a, h1, h2, Ev.step h h3⟩
omit hl hl2 hk hn in
theorem Drew.congr {F G : Nat → Option (Int × Int × Int × List S28 × Int)} {m b : Nat} (h : ∀ k, F k = G k) (d : Drew l G m b) : Drew l F m b := by
 have : F = G := funext h
 rw [this]; exact d
omit hl hl2 hk hn in
theorem Drew.bind {α : Type} {F : Nat → Option α} {C : Nat → α → Option (Int × Int × Int × List S28 × Int)} {m b : Nat} {x : α} (h : Ev F x) (d : Drew l (fun k => C k x) m b) : Drew l (fun k => (F k).bind (C k)) m b := by
 obtain ⟨e, a, h1, h2, h3⟩ := d
 exact ⟨e, a, h1, h2, Ev.bind h h3⟩
omit hl hl2 hk hn in
theorem Drew.now (e : S28) (a m b : Nat) (h1 : a ≤ m) (h2 : (tsize e ≤ 4 ^ b ∧ Lv b e) ∧ Fit l e) : Drew l (fun _ => some (drawn e a)) m b := ⟨e, a, h1, h2, Ev.now _⟩
omit hl hl2 hk hn in
theorem fit_eta {e : S28} (h : Fit l e) : Fit l ⟨e.f0, e.f1, e.f2, e.f3⟩ := by cases e; exact h
omit hl hl2 hk hn in
theorem leaf_size (k a b : Int) : tsize ⟨k, a, b, []⟩ = 1 := by rw [tsize, tsizeL]
omit hl hl2 hk hn in
theorem one_size (k a b : Int) (x : S28) : tsize ⟨k, a, b, [⟨x.f0, x.f1, x.f2, x.f3⟩]⟩ = tsize x + 1 := by
 cases x
 rw [tsize, tsizeL, tsizeL, Nat.add_zero]
omit hl hl2 hk hn in
theorem lf (b : Nat) (k x y : Int) : tsize ⟨k, x, y, []⟩ ≤ 4 ^ b ∧ Lv b ⟨k, x, y, []⟩ := ⟨by rw [leaf_size]; exact Nat.one_le_pow _ _ (by decide), lv_leaf _ _ _ _⟩
omit hl hl2 hk hn in
theorem lv_eta {d : Nat} {e : S28} (h : Lv d e) : Lv d ⟨e.f0, e.f1, e.f2, e.f3⟩ := by cases e; exact h
theorem leaf1 (at_ : Nat) (ha : at_ ≤ ns.length) (x1 : Int) (nest : Bool) (x7 x18 : Int) (b : Nat) (hb : 0 ≤ b) : Drew l (fun k => canopylaw5_maker_make.j1 k x1 nest x7 x18 true l ns (at_ : Int)) ns.length b := by
 obtain ⟨v, a2, h1, h2, h3, h4⟩ := mnext_ev l ns hl hl2 hk hn at_ ha (l.length : Int) (by omega) (by omega)
 refine Drew.step l (fun k => rfl) ?_
 refine Drew.congr l (fun k => by rw [canopylaw5_maker_make.j1, if_pos rfl, h4, Option.bind_some]) ?_
 cases nest with
 | true =>
  obtain ⟨r, a3, hp, h5, h6⟩ := pick_ev l ns hl hl2 hk hn a2 h1 3
  refine Drew.congr l (fun k => by rw [if_pos rfl]) (Drew.bind l h6 ?_)
  by_cases hr : r ≥ 0
  ·exact Drew.congr l (fun k => by rw [if_pos hr]; rfl) (Drew.now l ⟨3, r, 0, []⟩ a3 _ _ h5 ⟨lf _ _ _ _, view_fit hk (.sym r hr (hp hr).1)⟩)
  ·exact Drew.congr l (fun k => by rw [if_neg hr]; rfl) (Drew.now l ⟨1, 0, 0, []⟩ a3 _ _ h5 ⟨lf _ _ _ _, view_fit hk .none⟩)
 | false =>
  exact Drew.congr l (fun k => by rw [if_neg (by decide), if_pos h2]; rfl) (Drew.now l ⟨3, v, 0, []⟩ a2 _ _ h1 ⟨lf _ _ _ _, view_fit hk (.sym v h2 h3)⟩)
theorem rest0 (at_ : Nat) (ha : at_ ≤ ns.length) (x1 : Int) (nest : Bool) (x18 : Int) (h : ¬ (5 ≤ x18 ∧ x18 ≤ 13)) (b : Nat) (hb : 0 ≤ b) (x7 : Int) : Drew l (fun k => canopylaw5_maker_make.j1 k x1 nest x7 x18 false l ns (at_ : Int)) ns.length b := by
 refine Drew.step l (fun k => rfl) ?_
 refine Drew.congr l (fun k => by rw [canopylaw5_maker_make.j1, if_neg (by decide), if_neg (show ¬ x18 = 5 by omega), if_neg (show ¬ x18 = 6 by omega)]) ?_
 refine Drew.step l (fun k => rfl) ?_
 have e7 : (x18 == 7) = false := beq_eq_false_iff_ne.mpr (by omega)
 refine Drew.congr l (fun k => by rw [canopylaw5_maker_make.j2, e7, if_neg (by decide), if_neg (show ¬ x18 = 8 by omega), if_neg (show ¬ x18 = 9 by omega), if_neg (show ¬ x18 = 10 by omega)]) ?_
 refine Drew.step l (fun k => rfl) ?_
 have e11 : (x18 == 11) = false := beq_eq_false_iff_ne.mpr (by omega)
 exact Drew.congr l (fun k => by rw [canopylaw5_maker_make.j3, e11, if_neg (by decide), if_neg (show ¬ x18 = 12 by omega), if_neg (show ¬ x18 = 13 by omega)]; rfl) (Drew.now l ⟨1, 0, 0, []⟩ at_ _ _ ha ⟨lf _ _ _ _, view_fit hk .none⟩)
theorem make_ev : ∀ (d : Nat), d ≤ 100 → ∀ (nest : Bool) (at_ : Nat), at_ ≤ ns.length → Drew l (fun k => canopylaw5_maker_make.f k l ns (at_ : Int) (d : Int) nest) ns.length d := by
 intro d
 induction d with
 | zero =>
  intro hd nest at_ ha
  obtain ⟨v, a2, h1, h2, h3, h4⟩ := mnext_ev l ns hl hl2 hk hn at_ ha 14 (by omega) (by omega)
  refine Drew.step l (fun k => rfl) ?_
  have t5 : Int.tmod v 5 = v % 5 := Int.tmod_eq_emod_of_nonneg h2
  refine Drew.congr l (fun k => by rw [canopylaw5_maker_make.f, h4, Option.bind_some, if_pos (by omega), t5]) ?_
  have m0 := Int.emod_nonneg v (show (5 : Int) ≠ 0 by omega)
  have m1 := Int.emod_lt_of_pos v (show (0 : Int) < 5 by omega)
  generalize v % 5 = q at m0 m1
  refine Drew.step l (fun k => rfl) ?_
  by_cases q0 : q = 0
  ·exact Drew.congr l (fun k => by rw [canopylaw5_maker_make.j0, if_pos q0]; rfl) (Drew.now l ⟨2, 0, 0, []⟩ a2 _ _ h1 ⟨lf _ _ _ _, view_fit hk .void⟩)
  by_cases q1 : q = 1
  ·have e : (q == 1) = true := beq_iff_eq.mpr q1
   exact Drew.congr l (fun k => by rw [canopylaw5_maker_make.j0, if_neg q0, if_pos q1, e]) (leaf1 l ns hl hl2 hk hn a2 h1 _ nest _ _ _ (Nat.le_refl _))
  by_cases q2 : q = 2
  ·have e : (q == 2) = true := beq_iff_eq.mpr q2
   exact Drew.congr l (fun k => by rw [canopylaw5_maker_make.j0, if_neg q0, if_neg q1, if_pos q2, e]) (leaf1 l ns hl hl2 hk hn a2 h1 _ nest _ _ _ (Nat.le_refl _))
  by_cases q3 : q = 3
  ·have e : (q == 3) = true := beq_iff_eq.mpr q3
   exact Drew.congr l (fun k => by rw [canopylaw5_maker_make.j0, if_neg q0, if_neg q1, if_neg q2, e]) (leaf1 l ns hl hl2 hk hn a2 h1 _ nest _ _ _ (Nat.le_refl _))
  ·have e : (q == 3) = false := beq_eq_false_iff_ne.mpr q3
   exact Drew.congr l (fun k => by rw [canopylaw5_maker_make.j0, if_neg q0, if_neg q1, if_neg q2, e]) (rest0 l ns hl hl2 hk hn a2 h1 _ nest _ (by omega) _ (Nat.le_refl _) _)
 | succ d ih =>
  intro hd nest at_ ha
  have ih := ih (by omega)
  have p1 : 1 ≤ 4 ^ d := Nat.one_le_pow _ _ (by decide)
  have p2 : 4 ^ (d + 1) = 4 * 4 ^ d := by rw [Nat.pow_succ, Nat.mul_comm]
  have wd : wrap64 (((d + 1 : Nat) : Int) - 1) = (d : Int) := by unfold wrap64; omega
  obtain ⟨v, a2, h1, h2, h3, h4⟩ := mnext_ev l ns hl hl2 hk hn at_ ha 14 (by omega) (by omega)
  refine Drew.step l (fun k => rfl) ?_
  refine Drew.congr l (fun k => by rw [canopylaw5_maker_make.f, h4, Option.bind_some, if_neg (by omega)]) ?_
  generalize v = q at h2 h3
  refine Drew.step l (fun k => rfl) ?_
  by_cases q0 : q = 0
  ·exact Drew.congr l (fun k => by rw [canopylaw5_maker_make.j0, if_pos q0]; rfl) (Drew.now l ⟨2, 0, 0, []⟩ a2 _ _ h1 ⟨lf _ _ _ _, view_fit hk .void⟩)
  by_cases q1 : q = 1
  ·have e : (q == 1) = true := beq_iff_eq.mpr q1
   exact Drew.congr l (fun k => by rw [canopylaw5_maker_make.j0, if_neg q0, if_pos q1, e]) (leaf1 l ns hl hl2 hk hn a2 h1 _ nest _ _ _ (by omega))
  by_cases q2 : q = 2
  ·have e : (q == 2) = true := beq_iff_eq.mpr q2
   exact Drew.congr l (fun k => by rw [canopylaw5_maker_make.j0, if_neg q0, if_neg q1, if_pos q2, e]) (leaf1 l ns hl hl2 hk hn a2 h1 _ nest _ _ _ (by omega))
  by_cases q3 : q = 3
  ·have e : (q == 3) = true := beq_iff_eq.mpr q3
   exact Drew.congr l (fun k => by rw [canopylaw5_maker_make.j0, if_neg q0, if_neg q1, if_neg q2, e]) (leaf1 l ns hl hl2 hk hn a2 h1 _ nest _ _ _ (by omega))
  have e3 : (q == 3) = false := beq_eq_false_iff_ne.mpr q3
  refine Drew.congr l (fun k => by rw [canopylaw5_maker_make.j0, if_neg q0, if_neg q1, if_neg q2, e3]) ?_
  by_cases q4 : q = 4
  ·exact rest0 l ns hl hl2 hk hn a2 h1 _ nest _ (by omega) _ (by omega) _
  have nest2 : Drew l (fun k => canopylaw5_maker_make.j2 k ((d + 1 : Nat) : Int) nest q q true l ns (a2 : Int)) ns.length (d + 1) := by
   obtain ⟨r, a3, hp, h5, h6⟩ := pick_ev l ns hl hl2 hk hn a2 h1 1
   obtain ⟨r2, a4, hp2, h7, h8⟩ := pick_ev l ns hl hl2 hk hn a3 h5 2
   refine Drew.step l (fun k => rfl) ?_
   refine Drew.congr l (fun k => by rw [canopylaw5_maker_make.j2, if_pos rfl]) ?_
   refine Drew.bind l h6 (Drew.bind l h8 ?_)
   by_cases c1 : r ≥ 0
   ·by_cases c2 : r2 ≥ 0
    ·obtain ⟨e, a5, h9, h10, h11⟩ := ih true a4 h7
     refine Drew.congr l (fun k => by rw [if_pos c1, if_pos c2, wd]) (Drew.bind l h11 ?_)
     exact Drew.now l ⟨4, r, r2, [⟨e.f0, e.f1, e.f2, e.f3⟩]⟩ a5 _ _ h9 ⟨⟨by rw [one_size]; have := h10.1.1; omega, Nat.le_add_left 1 2, fun x hx => by simp only [List.mem_cons, List.not_mem_nil, or_false] at hx; subst hx; exact lv_eta h10.1.2⟩, view_fit hk (.nest r r2 _ c1 (hp c1).1 (hp c1).2 c2 (hp2 c2).1 (hp2 c2).2 (fit_eta l h10.2))⟩
    ·exact Drew.congr l (fun k => by rw [if_pos c1, if_neg c2]; rfl) (Drew.now l ⟨1, 0, 0, []⟩ a4 _ _ h7 ⟨lf _ _ _ _, view_fit hk .none⟩)
   ·exact Drew.congr l (fun k => by rw [if_neg c1]; rfl) (Drew.now l ⟨1, 0, 0, []⟩ a4 _ _ h7 ⟨lf _ _ _ _, view_fit hk .none⟩)
  have kind56 : ∀ (x y : S28) (xs : List S28), (∀ z ∈ x :: y :: xs, Fit l z) → Fit l ⟨wrap64 (5 + Int.tmod q 2), 0, 0, x :: y :: xs⟩ := fun x y xs hxs => by
   have t2 : Int.tmod q 2 = q % 2 := Int.tmod_eq_emod_of_nonneg h2
   have m0 := Int.emod_nonneg q (show (2 : Int) ≠ 0 by omega)
   have m1 := Int.emod_lt_of_pos q (show (0 : Int) < 2 by omega)
   rw [t2]
   rcases (show q % 2 = 0 ∨ q % 2 = 1 by omega) with z | z <;> rw [z]
   ·rw [show wrap64 (5 + 0) = 5 by unfold wrap64; omega]; exact view_fit hk (.cat x y xs hxs)
   ·rw [show wrap64 (5 + 1) = 6 by unfold wrap64; omega]; exact view_fit hk (.or x y xs hxs)
  have rows3 : Drew l (fun k => canopylaw5_maker_make.j3 k ((d + 1 : Nat) : Int) nest q q true l ns (a2 : Int)) ns.length (d + 1) := by
   obtain ⟨e, a3, h5, h6, h7⟩ := ih nest a2 h1
   obtain ⟨e2, a4, h8, h9, h10⟩ := ih nest a3 h5
   obtain ⟨z, a5, h11, h12, h13, h14⟩ := mnext_ev l ns hl hl2 hk hn a4 h8 3 (by omega) (by omega)
   refine Drew.step l (fun k => rfl) ?_
   refine Drew.congr l (fun k => by rw [canopylaw5_maker_make.j3, if_pos rfl, wd]) ?_
   refine Drew.bind l h7 (Drew.bind l h10 ?_)
   refine Drew.congr l (fun k => by rw [Option.bind_some, show canopylaw5_maker_next.f l ns (drawn e2 a4).2.2.2.2 3 = _ from h14, Option.bind_some]) ?_
   have s2 : tsizeL [(⟨e.f0, e.f1, e.f2, e.f3⟩ : S28), ⟨e2.f0, e2.f1, e2.f2, e2.f3⟩] = tsize e + tsize e2 := by
    cases e; cases e2
    rw [tsizeL, tsizeL, tsizeL]; rfl
   by_cases c : z = 0
   ·obtain ⟨e3, a6, h15, h16, h17⟩ := ih nest a5 h11
    refine Drew.congr l (fun k => by rw [if_pos c]) (Drew.bind l h17 ?_)
    refine Drew.congr l (fun k => by rw [if_pos (by simp only [List.length_cons, List.length_nil]; omega)]; rfl) (Drew.now l ⟨wrap64 (5 + Int.tmod q 2), 0, 0, [(⟨e.f0, e.f1, e.f2, e.f3⟩ : S28), ⟨e2.f0, e2.f1, e2.f2, e2.f3⟩] ++ [⟨e3.f0, e3.f1, e3.f2, e3.f3⟩]⟩ a6 _ _ h15 ?_)
    have s3 : tsize (⟨e3.f0, e3.f1, e3.f2, e3.f3⟩ : S28) = tsize e3 := by cases e3; rfl
    refine ⟨⟨?_, Nat.le_refl _, fun x hx => ?_⟩, ?_⟩
    ·rw [tsize, tsizeL_snoc, s2, s3]
     have := h6.1.1; have := h9.1.1; have := h16.1.1
     omega
    ·simp only [List.cons_append, List.nil_append, List.mem_cons, List.not_mem_nil, or_false] at hx
     rcases hx with rfl | rfl | rfl
     ·exact lv_eta h6.1.2
     ·exact lv_eta h9.1.2
     ·exact lv_eta h16.1.2
    ·refine kind56 _ _ [_] (fun z hz => ?_)
     simp only [List.mem_cons, List.not_mem_nil, or_false] at hz
     rcases hz with rfl | rfl | rfl
     ·exact fit_eta l h6.2
     ·exact fit_eta l h9.2
     ·exact fit_eta l h16.2
   ·exact Drew.congr l (fun k => by rw [if_neg c]; rfl) (Drew.now l ⟨wrap64 (5 + Int.tmod q 2), 0, 0, [(⟨e.f0, e.f1, e.f2, e.f3⟩ : S28), ⟨e2.f0, e2.f1, e2.f2, e2.f3⟩]⟩ a5 _ _ h11 ⟨⟨by rw [tsize, s2]; have := h6.1.1; have := h9.1.1; omega, Nat.le_succ 2, fun x hx => by
     simp only [List.mem_cons, List.not_mem_nil, or_false] at hx
     rcases hx with rfl | rfl
     ·exact lv_eta h6.1.2
     ·exact lv_eta h9.1.2⟩, by
     refine kind56 _ _ [] (fun z hz => ?_)
     simp only [List.mem_cons, List.not_mem_nil, or_false] at hz
     rcases hz with rfl | rfl
     ·exact fit_eta l h6.2
     ·exact fit_eta l h9.2⟩)
  have star : Drew l (fun k => (canopylaw5_maker_make.f k l ns (a2 : Int) (wrap64 (((d + 1 : Nat) : Int) - 1)) nest).bind fun bt787 => (some (7, 0, 0, (([(⟨bt787.1, bt787.2.1, bt787.2.2.1, bt787.2.2.2.1⟩ : S28)] : List (S28))), bt787.2.2.2.2) : Option (Int × Int × Int × List S28 × Int))) ns.length (d + 1) := by
   obtain ⟨e, a3, h5, h6, h7⟩ := ih nest a2 h1
   refine Drew.congr l (fun k => by rw [wd]) (Drew.bind l h7 ?_)
   exact Drew.now l ⟨7, 0, 0, [⟨e.f0, e.f1, e.f2, e.f3⟩]⟩ a3 _ _ h5 ⟨⟨by rw [one_size]; have := h6.1.1; omega, Nat.le_add_left 1 2, fun x hx => by simp only [List.mem_cons, List.not_mem_nil, or_false] at hx; subst hx; exact lv_eta h6.1.2⟩, view_fit hk (.star _ (fit_eta l h6.2))⟩
  refine Drew.step l (fun k => rfl) ?_
  by_cases q5 : q = 5
  ·have e : (q == 5) = true := beq_iff_eq.mpr q5
   exact Drew.congr l (fun k => by rw [canopylaw5_maker_make.j1, if_neg (by decide), if_pos q5, e]) nest2
  by_cases q6 : q = 6
  ·have e : (q == 6) = true := beq_iff_eq.mpr q6
   exact Drew.congr l (fun k => by rw [canopylaw5_maker_make.j1, if_neg (by decide), if_neg q5, if_pos q6, e]) nest2
  by_cases q7 : q = 7
  ·have e : (q == 7) = true := beq_iff_eq.mpr q7
   exact Drew.congr l (fun k => by rw [canopylaw5_maker_make.j1, if_neg (by decide), if_neg q5, if_neg q6, e]) nest2
  have e7 : (q == 7) = false := beq_eq_false_iff_ne.mpr q7
  refine Drew.congr l (fun k => by rw [canopylaw5_maker_make.j1, if_neg (by decide), if_neg q5, if_neg q6, e7]) ?_
  refine Drew.step l (fun k => rfl) ?_
  by_cases q8 : q = 8
  ·have e : (q == 8) = true := beq_iff_eq.mpr q8
   exact Drew.congr l (fun k => by rw [canopylaw5_maker_make.j2, if_neg (by decide), if_pos q8, e]) rows3
  by_cases q9 : q = 9
  ·have e : (q == 9) = true := beq_iff_eq.mpr q9
   exact Drew.congr l (fun k => by rw [canopylaw5_maker_make.j2, if_neg (by decide), if_neg q8, if_pos q9, e]) rows3
  by_cases q10 : q = 10
  ·have e : (q == 10) = true := beq_iff_eq.mpr q10
   exact Drew.congr l (fun k => by rw [canopylaw5_maker_make.j2, if_neg (by decide), if_neg q8, if_neg q9, if_pos q10, e]) rows3
  by_cases q11 : q = 11
  ·have e : (q == 11) = true := beq_iff_eq.mpr q11
   exact Drew.congr l (fun k => by rw [canopylaw5_maker_make.j2, if_neg (by decide), if_neg q8, if_neg q9, if_neg q10, e]) rows3
  have e11 : (q == 11) = false := beq_eq_false_iff_ne.mpr q11
  refine Drew.congr l (fun k => by rw [canopylaw5_maker_make.j2, if_neg (by decide), if_neg q8, if_neg q9, if_neg q10, e11]) ?_
  refine Drew.step l (fun k => rfl) ?_
  by_cases q12 : q = 12
  ·exact Drew.congr l (fun k => by rw [canopylaw5_maker_make.j3, if_neg (by decide), if_pos q12]) star
  ·exact Drew.congr l (fun k => by rw [canopylaw5_maker_make.j3, if_neg (by decide), if_neg q12, if_pos (by omega)]) star
theorem Make_lv (d : Nat) (hd : d ≤ 10) : ∃ e : S28, ((tsize e ≤ 4 ^ d ∧ Lv d e) ∧ Fit l e) ∧ Ev (fun k => canopylaw5_Make.f k l ns (d : Int)) (e.f0, e.f1, e.f2, e.f3) := by
 obtain ⟨e, a, h1, h2, h3⟩ := make_ev l ns hl hl2 hk hn d (by omega) false 0 (by omega)
 refine ⟨e, h2, ?_⟩
 unfold canopylaw5_Make.f
 exact Ev.bind h3 (Ev.now _)
theorem Make_ev (d : Nat) (hd : d ≤ 10) : ∃ e : S28, (tsize e ≤ 4 ^ d ∧ Fit l e) ∧ Ev (fun k => canopylaw5_Make.f k l ns (d : Int)) (e.f0, e.f1, e.f2, e.f3) := by
 obtain ⟨e, h, h2⟩ := Make_lv l ns hl hl2 hk hn d hd
 exact ⟨e, ⟨h.1.1, h.2⟩, h2⟩
end
end Go.Proofs.YtodbnnfiadcbaaaL
