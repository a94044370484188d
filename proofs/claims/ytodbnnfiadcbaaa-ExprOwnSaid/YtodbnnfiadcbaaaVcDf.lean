import Derived.RowKit
import Derived.Lib.Join
import Derived.Lib.Bytealg
/- The plain functions, one for each function of the code. -/
set_option linter.unusedVariables false
set_option linter.unusedSimpArgs false
set_option linter.unusedSectionVars false
namespace Go.Proofs.Ytodbnnfiadcbaaa.P
open Go Go.RowKit
set_option linter.unusedVariables false
set_option linter.unusedSimpArgs false
structure S56 where
 f0 : ByteArray
 f1 : Int
def z56 : S56 := ⟨(⟨#[]⟩ : ByteArray), (0 : Int)⟩
def rd_T56 (xs : List S56) (i : Int) : S56 := xs.getD i.toNat z56
structure S28 where
 f0 : Int
 f1 : Int
 f2 : Int
 f3 : (List S28)
def z28 : S28 := ⟨(0 : Int), (0 : Int), (0 : Int), ([] : List S28)⟩
def rd_T28 (xs : List S28) (i : Int) : S28 := xs.getD i.toNat z28
def rd (xs : List Int) (i : Int) : Int := xs.getD i.toNat 0
def rdOf {α : Type} (d : α) (xs : List α) (i : Int) : α := xs.getD i.toNat d
def bt (s : ByteArray) (i : Int) : Int := if h : i.toNat < s.size then ((s[i.toNat]'h).toNat : Int) else 0
def mx (a b : Int) : Int := if a < b then b else a
def LeO {α : Type} (a b : Option α) : Prop := ∀ r, a = some r → b = some r
theorem LeO.refl {α : Type} (a : Option α) : LeO a a := fun _ h => h
theorem LeO.none {α : Type} (b : Option α) : LeO Option.none b := fun _ h => by cases h
theorem LeO.trans {α : Type} {a b c : Option α} (h : LeO a b) (k : LeO b c) : LeO a c := fun r hr => k r (h r hr)
theorem LeO.ite {α : Type} {c : Prop} [Decidable c] {a a' b b' : Option α} (h : LeO a a') (k : LeO b b') : LeO (if c then a else b) (if c then a' else b') := by
 split
 ·exact h
 ·exact k
theorem LeO.bind {α β : Type} {a a' : Option α} {f f' : α → Option β} (h : LeO a a') (k : ∀ x, LeO (f x) (f' x)) : LeO (a.bind f) (a'.bind f') := by
 intro r hr
 obtain ⟨x, hx, hf⟩ := Option.bind_eq_some_iff.1 hr
 exact Option.bind_eq_some_iff.2 ⟨x, h x hx, k x r hf⟩
theorem LeO.map {α β : Type} {a a' : Option α} (f : α → β) (h : LeO a a') : LeO (a.map f) (a'.map f) := by
 intro r hr
 obtain ⟨x, hx, hf⟩ := Option.map_eq_some_iff.1 hr
 exact Option.map_eq_some_iff.2 ⟨x, h x hx, hf⟩

def canopylaw1_within.f (a0 : Int) (a1 : Int) : Option (Int) := if a1 = 0 then (none) else (if (Int.tmod a0 a1) < 0 then (some (wrap64 ((Int.tmod a0 a1) + a1))) else (some (Int.tmod a0 a1)))

def canopylaw1_Syms.f (a0 : Int) (l1 : List Int) : Option ((List (S56))) := (some (([(⟨(⟨#[97]⟩ : ByteArray), 1⟩ : S56), (⟨(⟨#[97]⟩ : ByteArray), 2⟩ : S56), (⟨(⟨#[98]⟩ : ByteArray), 3⟩ : S56), (⟨(⟨#[99]⟩ : ByteArray), 1⟩ : S56), (⟨(⟨#[99]⟩ : ByteArray), 2⟩ : S56), (⟨(⟨#[100]⟩ : ByteArray), 3⟩ : S56), (⟨(⟨#[120]⟩ : ByteArray), 2⟩ : S56)] : List (S56)) : List (S56))).bind fun y101 => ((canopylaw1_within.f a0 5).bind fun t104 => ((canopylaw1_within.f a0 7).bind fun t105 => (if t105 = 1 then (if 2 < (y101.length : Int) then (if 1 < (y101.length : Int) then (if 0 < (y101.length : Int) then (some (([(⟨(rd_T56 y101 2).f0, (rd_T56 y101 2).f1⟩ : S56), (⟨(rd_T56 y101 1).f0, (rd_T56 y101 1).f1⟩ : S56), (⟨(rd_T56 y101 0).f0, (rd_T56 y101 0).f1⟩ : S56)] : List (S56)))) else (none)) else (none)) else (none)) else ((canopylaw1_within.f a0 11).bind fun t112 => (if t112 = 2 then (if (l1.length : Int) > 0 then (if 0 < (l1.length : Int) then ((canopylaw1_within.f (rd l1 0) 7).bind fun t114 => (if 0 ≤ t114 then (if t114 < (y101.length : Int) then (some (([(⟨(rd_T56 y101 t114).f0, (rd_T56 y101 t114).f1⟩ : S56)] : List (S56)))) else (none)) else (none))) else (none)) else (if 0 ≤ (wrap64 (3 + t104)) then (if (wrap64 (3 + t104)) ≤ (y101.length : Int) then (some (y101.take ((wrap64 (3 + t104)) : Int).toNat)) else (none)) else (none))) else (if 0 ≤ (wrap64 (3 + t104)) then (if (wrap64 (3 + t104)) ≤ (y101.length : Int) then (some (y101.take ((wrap64 (3 + t104)) : Int).toNat)) else (none)) else (none)))))))

mutual
def expr_shape.j0 : Nat → Int → Int → Bool → Int → Int → Int → List (S28) → Option (Bool)
 | 0, _, _, _, _, _, _, _ => none
 | k + 1, x3, x8, x9, x126000, x126001, x126002, x126003 => if x9 = true then (if x3 = 0 then (if x126001 = 0 then (some (x126002 == 0)) else (some false)) else (some false)) else (if x8 = 3 then (if x3 = 0 then (some (x126002 == 0)) else (some false)) else (if x8 = 4 then (some (x3 == 1)) else (if x8 = 5 then (expr_shape.j1 k x3 x8 (x8 == 5) x126000 x126001 x126002 x126003) else (expr_shape.j1 k x3 x8 (x8 == 6) x126000 x126001 x126002 x126003))))
def expr_shape.j1 : Nat → Int → Int → Bool → Int → Int → Int → List (S28) → Option (Bool)
 | 0, _, _, _, _, _, _, _ => none
 | k + 1, x3, x8, x37, x126000, x126001, x126002, x126003 => if x37 = true then (if x3 ≥ 2 then (if x126001 = 0 then (some (x126002 == 0)) else (some false)) else (some false)) else (if x8 = 7 then (if x3 = 1 then (if x126001 = 0 then (some (x126002 == 0)) else (some false)) else (some false)) else (some false))
end

def expr_shape.f (k : Nat) (a0_0 : Int) (a0_1 : Int) (a0_2 : Int) (l0_3 : List (S28)) : Option (Bool) := if a0_0 = 1 then (expr_shape.j0 k (l0_3.length : Int) a0_0 (a0_0 == 1) a0_0 a0_1 a0_2 l0_3) else (expr_shape.j0 k (l0_3.length : Int) a0_0 (a0_0 == 2) a0_0 a0_1 a0_2 l0_3)

theorem expr_shape.mono_l : ∀ k, (∀ y0 y1 y2 y3 y4 y5 y6, LeO (expr_shape.j0 k y0 y1 y2 y3 y4 y5 y6) (expr_shape.j0 (k + 1) y0 y1 y2 y3 y4 y5 y6)) ∧ (∀ y0 y1 y2 y3 y4 y5 y6, LeO (expr_shape.j1 k y0 y1 y2 y3 y4 y5 y6) (expr_shape.j1 (k + 1) y0 y1 y2 y3 y4 y5 y6))
 | 0 => ⟨fun _ _ _ _ _ _ _ r h => by simp [expr_shape.j0] at h, fun _ _ _ _ _ _ _ r h => by simp [expr_shape.j1] at h⟩
 | k + 1 => by
  obtain ⟨ih0, ih1⟩ := expr_shape.mono_l k
  refine ⟨?_, ?_⟩
  ·intro y0 y1 y2 y3 y4 y5 y6
   unfold expr_shape.j0
   repeat' first
   | (with_reducible exact ih1 _ _ _ _ _ _ _)
   | (with_reducible exact LeO.refl _)
   | (with_reducible refine LeO.ite ?_ ?_)
  ·intro y0 y1 y2 y3 y4 y5 y6
   unfold expr_shape.j1
   repeat' first
   | (with_reducible exact LeO.refl _)

theorem expr_shape.mono : ∀ a0 a1 a2 a3 k, LeO (expr_shape.f k a0 a1 a2 a3) (expr_shape.f (k + 1) a0 a1 a2 a3) := by
 intro a0 a1 a2 a3 k
 obtain ⟨ih0, ih1⟩ := expr_shape.mono_l k
 unfold expr_shape.f
 repeat' first
  | (with_reducible exact ih0 _ _ _ _ _ _ _)
  | (with_reducible refine LeO.ite ?_ ?_)

def expr_of.f (l0 : List (S56)) (a1 : Int) : Option (Int) := if a1 < 0 then (some 0) else (if a1 ≥ (l0.length : Int) then (some 0) else (if 0 ≤ a1 then (if a1 < (l0.length : Int) then (some ((rd_T56 l0 a1).f1)) else (none)) else (none)))

def expr_text.j0 : Nat → List (S56) → Int → Bool → Option (ByteArray)
 | 0, _, _, _ => none
 | k + 1, x0, x1, x12 => if x12 = true then (some (⟨#[]⟩ : ByteArray)) else (if 0 ≤ x1 then (if x1 < (x0.length : Int) then (if ((rd_T56 x0 x1).f1) = 1 then (if 1 + ((rd_T56 x0 x1).f0).size ≤ 9223372036854775807 then (if ((⟨#[60]⟩ : ByteArray) ++ ((rd_T56 x0 x1).f0)).size + 1 ≤ 9223372036854775807 then (some (((⟨#[60]⟩ : ByteArray) ++ ((rd_T56 x0 x1).f0)) ++ (⟨#[62]⟩ : ByteArray))) else (none)) else (none)) else (if ((rd_T56 x0 x1).f1) = 2 then (if 2 + ((rd_T56 x0 x1).f0).size ≤ 9223372036854775807 then (if ((⟨#[60, 47]⟩ : ByteArray) ++ ((rd_T56 x0 x1).f0)).size + 1 ≤ 9223372036854775807 then (some (((⟨#[60, 47]⟩ : ByteArray) ++ ((rd_T56 x0 x1).f0)) ++ (⟨#[62]⟩ : ByteArray))) else (none)) else (none)) else (some ((rd_T56 x0 x1).f0)))) else (none)) else (none))

def expr_text.f (k : Nat) (l0 : List (S56)) (a1 : Int) : Option (ByteArray) := if a1 < 0 then (expr_text.j0 k l0 a1 true) else (expr_text.j0 k l0 a1 (decide (a1 ≥ (l0.length : Int))))

theorem expr_text.mono_l : ∀ k, (∀ y0 y1 y2, LeO (expr_text.j0 k y0 y1 y2) (expr_text.j0 (k + 1) y0 y1 y2))
 | 0 => fun _ _ _ r h => by simp [expr_text.j0] at h
 | k + 1 => by
  ·intro y0 y1 y2
   unfold expr_text.j0
   repeat' first
   | (with_reducible exact LeO.refl _)

theorem expr_text.mono : ∀ a0 a1 k, LeO (expr_text.f k a0 a1) (expr_text.f (k + 1) a0 a1) := by
 intro a0 a1 k
 have ih0 := expr_text.mono_l k
 unfold expr_text.f
 repeat' first
  | (with_reducible exact ih0 _ _ _)
  | (with_reducible refine LeO.ite ?_ ?_)

def expr_name.f (l0 : List (S56)) (a1 : Int) : Option (ByteArray) := if a1 < 0 then (some (⟨#[]⟩ : ByteArray)) else (if a1 ≥ (l0.length : Int) then (some (⟨#[]⟩ : ByteArray)) else (if 0 ≤ a1 then (if a1 < (l0.length : Int) then (some ((rd_T56 l0 a1).f0)) else (none)) else (none)))

def strings_Join.f (l0 : List ByteArray) (a1 : ByteArray) : Option (ByteArray) := if l0.length ≤ 140737488355328 then (if (Lib.join (l0.map (·.data.toList)) a1.data.toList).length ≤ 140737488355328 then some ⟨(Lib.join (l0.map (·.data.toList)) a1.data.toList).toArray⟩ else none) else none

mutual
def expr_part.l0 : Nat → ByteArray → List Int → Int → Int → Int → Int → Int → List (S28) → Option (ByteArray)
 | 0, _, _, _, _, _, _, _, _ => none
 | k + 1, x7, x13, x14, x15, x133000, x133001, x133002, x133003 => if x15 < x14 then (if 0 ≤ x15 then (if x15 < (x13.length : Int) then (if x133000 = (rd x13 x15) then (if 2 + x7.size ≤ 9223372036854775807 then (if ((⟨#[40, 32]⟩ : ByteArray) ++ x7).size + 2 ≤ 9223372036854775807 then (some (((⟨#[40, 32]⟩ : ByteArray) ++ x7) ++ (⟨#[32, 41]⟩ : ByteArray))) else (none)) else (none)) else (expr_part.l0 k x7 x13 x14 (wrap64 (x15 + 1)) x133000 x133001 x133002 x133003)) else (none)) else (none)) else (some x7)
def expr_part.f : Nat → List (S56) → Int → Int → Int → List (S28) → List Int → Option (ByteArray)
 | 0, _, _, _, _, _, _ => none
 | k + 1, l0, a1_0, a1_1, a1_2, l1_3, l2 => (expr_Text.f k l0 a1_0 a1_1 a1_2 l1_3).bind fun t133 => (expr_part.l0 k t133 l2 (l2.length : Int) 0 a1_0 a1_1 a1_2 l1_3)
def expr_parts.l0 : Nat → List (S56) → ByteArray → List Int → List ByteArray → List (S28) → Int → Int → Option (ByteArray)
 | 0, _, _, _, _, _, _, _ => none
 | k + 1, x0, x2, x3, x9, x13, x14, x15 => if x15 < x14 then (if 0 ≤ x15 then (if x15 < (x13.length : Int) then ((expr_part.f k x0 ((rd_T28 x13 x15).f0) ((rd_T28 x13 x15).f1) ((rd_T28 x13 x15).f2) ((rd_T28 x13 x15).f3) x3).bind fun t138 => (if x9.length < 8796093022208 then (expr_parts.l0 k x0 x2 x3 (x9 ++ [t138]) x13 x14 (wrap64 (x15 + 1))) else (none))) else (none)) else (none)) else ((strings_Join.f x9 x2).bind fun t142 => (some t142))
def expr_parts.f : Nat → List (S56) → Int → Int → Int → List (S28) → ByteArray → List Int → Option (ByteArray)
 | 0, _, _, _, _, _, _, _ => none
 | k + 1, l0, a1_0, a1_1, a1_2, l1_3, a2, l3 => expr_parts.l0 k l0 a2 l3 ([] : List ByteArray) l1_3 (l1_3.length : Int) 0
def expr_Text.f : Nat → List (S56) → Int → Int → Int → List (S28) → Option (ByteArray)
 | 0, _, _, _, _, _ => none
 | k + 1, l0, a1_0, a1_1, a1_2, l1_3 => if a1_0 = 2 then (some (⟨#[49]⟩ : ByteArray)) else (if a1_0 = 3 then ((expr_text.f k l0 a1_1).bind fun t144 => (some t144)) else (if a1_0 = 4 then ((expr_name.f l0 a1_1).bind fun t145 => (if 1 + t145.size ≤ 9223372036854775807 then (if ((⟨#[60]⟩ : ByteArray) ++ t145).size + 2 ≤ 9223372036854775807 then ((expr_parts.f k l0 a1_0 a1_1 a1_2 l1_3 (⟨#[32]⟩ : ByteArray) ([] : List Int)).bind fun t146 => (if (((⟨#[60]⟩ : ByteArray) ++ t145) ++ (⟨#[91, 32]⟩ : ByteArray)).size + t146.size ≤ 9223372036854775807 then (if ((((⟨#[60]⟩ : ByteArray) ++ t145) ++ (⟨#[91, 32]⟩ : ByteArray)) ++ t146).size + 2 ≤ 9223372036854775807 then ((expr_name.f l0 a1_2).bind fun t147 => (if (((((⟨#[60]⟩ : ByteArray) ++ t145) ++ (⟨#[91, 32]⟩ : ByteArray)) ++ t146) ++ (⟨#[32, 93]⟩ : ByteArray)).size + t147.size ≤ 9223372036854775807 then (if ((((((⟨#[60]⟩ : ByteArray) ++ t145) ++ (⟨#[91, 32]⟩ : ByteArray)) ++ t146) ++ (⟨#[32, 93]⟩ : ByteArray)) ++ t147).size + 1 ≤ 9223372036854775807 then (some (((((((⟨#[60]⟩ : ByteArray) ++ t145) ++ (⟨#[91, 32]⟩ : ByteArray)) ++ t146) ++ (⟨#[32, 93]⟩ : ByteArray)) ++ t147) ++ (⟨#[62]⟩ : ByteArray))) else (none)) else (none))) else (none)) else (none))) else (none)) else (none))) else (if a1_0 = 5 then ((expr_parts.f k l0 a1_0 a1_1 a1_2 l1_3 (⟨#[32]⟩ : ByteArray) (([5, 6] : List Int))).bind fun t151 => (some t151)) else (if a1_0 = 6 then ((expr_parts.f k l0 a1_0 a1_1 a1_2 l1_3 (⟨#[32, 124, 32]⟩ : ByteArray) (([6] : List Int))).bind fun t155 => (some t155)) else (if a1_0 = 7 then ((expr_parts.f k l0 a1_0 a1_1 a1_2 l1_3 (⟨#[32]⟩ : ByteArray) (([5, 6] : List Int))).bind fun t159 => (if t159.size + 1 ≤ 9223372036854775807 then (some (t159 ++ (⟨#[42]⟩ : ByteArray))) else (none))) else (some (⟨#[48]⟩ : ByteArray)))))))
end

theorem expr_Text.mono_g : ∀ k, (∀ y0 y1 y2 y3 y4 y5, LeO (expr_part.f k y0 y1 y2 y3 y4 y5) (expr_part.f (k + 1) y0 y1 y2 y3 y4 y5)) ∧ (∀ y0 y1 y2 y3 y4 y5 y6 y7, LeO (expr_part.l0 k y0 y1 y2 y3 y4 y5 y6 y7) (expr_part.l0 (k + 1) y0 y1 y2 y3 y4 y5 y6 y7)) ∧ (∀ y0 y1 y2 y3 y4 y5 y6, LeO (expr_parts.f k y0 y1 y2 y3 y4 y5 y6) (expr_parts.f (k + 1) y0 y1 y2 y3 y4 y5 y6)) ∧ (∀ y0 y1 y2 y3 y4 y5 y6, LeO (expr_parts.l0 k y0 y1 y2 y3 y4 y5 y6) (expr_parts.l0 (k + 1) y0 y1 y2 y3 y4 y5 y6)) ∧ (∀ y0 y1 y2 y3 y4, LeO (expr_Text.f k y0 y1 y2 y3 y4) (expr_Text.f (k + 1) y0 y1 y2 y3 y4))
 | 0 => ⟨fun _ _ _ _ _ _ r h => by simp [expr_part.f] at h, fun _ _ _ _ _ _ _ _ r h => by simp [expr_part.l0] at h, fun _ _ _ _ _ _ _ r h => by simp [expr_parts.f] at h, fun _ _ _ _ _ _ _ r h => by simp [expr_parts.l0] at h, fun _ _ _ _ _ r h => by simp [expr_Text.f] at h⟩
 | k + 1 => by
  obtain ⟨ih0, ih1, ih2, ih3, ih4⟩ := expr_Text.mono_g k
  refine ⟨?_, ?_, ?_, ?_, ?_⟩
  ·intro y0 y1 y2 y3 y4 y5
   unfold expr_part.f
   repeat' first
   | (with_reducible exact ih1 _ _ _ _ _ _ _ _)
   | (with_reducible exact ih4 _ _ _ _ _)
   | (with_reducible refine LeO.bind ?_ (fun _ => ?_))
  ·intro y0 y1 y2 y3 y4 y5 y6 y7
   unfold expr_part.l0
   repeat' first
   | (with_reducible exact ih1 _ _ _ _ _ _ _ _)
   | (with_reducible exact LeO.refl _)
   | (with_reducible refine LeO.ite ?_ ?_)
  ·intro y0 y1 y2 y3 y4 y5 y6
   unfold expr_parts.f
   repeat' first
   | (with_reducible exact ih3 _ _ _ _ _ _ _)
  ·intro y0 y1 y2 y3 y4 y5 y6
   unfold expr_parts.l0
   repeat' first
   | (with_reducible exact ih0 _ _ _ _ _ _)
   | (with_reducible exact ih3 _ _ _ _ _ _ _)
   | (with_reducible exact LeO.refl _)
   | (with_reducible refine LeO.ite ?_ ?_)
   | (with_reducible refine LeO.bind ?_ (fun _ => ?_))
  ·intro y0 y1 y2 y3 y4
   unfold expr_Text.f
   repeat' first
   | (with_reducible exact ih2 _ _ _ _ _ _ _)
   | (with_reducible exact expr_text.mono _ _ _)
   | (with_reducible exact LeO.refl _)
   | (with_reducible refine LeO.ite ?_ ?_)
   | (with_reducible refine LeO.bind ?_ (fun _ => ?_))

theorem expr_Text.mono : ∀ a0 a1 a2 a3 a4 k, LeO (expr_Text.f k a0 a1 a2 a3 a4) (expr_Text.f (k + 1) a0 a1 a2 a3 a4) := by
 intro a0 a1 a2 a3 a4 k
 obtain ⟨ih0, ih1, ih2, ih3, ih4⟩ := expr_Text.mono_g k
 exact ih4 a0 a1 a2 a3 a4


def strings_IndexByte.f (a0 : ByteArray) (a1 : Int) : Option (Int) := some (Lib.indexByte a0.data.toList a1.toNat.toUInt8)

def stringslite_HasPrefix.f (a0 : ByteArray) (a1 : ByteArray) : Option (Bool) := if (a0.size : Int) ≥ (a1.size : Int) then (if 0 ≤ (a1.size : Int) then (if (a1.size : Int) ≤ (a0.size : Int) then (some ((a0.extract 0 ((a1.size : Int) : Int).toNat).toList == a1.toList)) else (none)) else (none)) else (some false)

def strings_HasPrefix.f (a0 : ByteArray) (a1 : ByteArray) : Option (Bool) := (stringslite_HasPrefix.f a0 a1).bind fun t160 => (some t160)

def expr_letters.l0 : Nat → ByteArray → Int → Option (Int)
 | 0, _, _ => none
 | k + 1, x0, x3 => if x3 < (x0.size : Int) then (if 0 ≤ x3 then (if (bt x0 x3) ≥ 97 then (if (bt x0 x3) ≤ 122 then (expr_letters.l0 k x0 (wrap64 (x3 + 1))) else (some x3)) else (some x3)) else (none)) else (some x3)

def expr_letters.f (k : Nat) (a0 : ByteArray) : Option (Int) := expr_letters.l0 k a0 0

theorem expr_letters.mono_l : ∀ k, (∀ y0 y1, LeO (expr_letters.l0 k y0 y1) (expr_letters.l0 (k + 1) y0 y1))
 | 0 => fun _ _ r h => by simp [expr_letters.l0] at h
 | k + 1 => by
  have ih0 := expr_letters.mono_l k
  ·intro y0 y1
   unfold expr_letters.l0
   repeat' first
   | (with_reducible exact ih0 _ _)
   | (with_reducible exact LeO.refl _)
   | (with_reducible refine LeO.ite ?_ ?_)

theorem expr_letters.mono : ∀ a0 k, LeO (expr_letters.f k a0) (expr_letters.f (k + 1) a0) := by
 intro a0 k
 have ih0 := expr_letters.mono_l k
 unfold expr_letters.f
 repeat' first
  | (with_reducible exact ih0 _ _)

def expr_named.j0 : Nat → ByteArray → ByteArray → Int → Bool → Option (ByteArray × Int × Int)
 | 0, _, _, _, _ => none
 | k + 1, x0, x1, x7, x15 => if x15 = true then (some ((⟨#[]⟩ : ByteArray), 0, 0)) else (if x1.toList = ([] : List UInt8) then (if 0 ≤ x7 then (if x7 ≤ (x0.size : Int) then (some (x0.extract 0 (x7 : Int).toNat, 32, x7)) else (none)) else (none)) else (if x7 = (x0.size : Int) then (some ((⟨#[]⟩ : ByteArray), 0, 0)) else (if 0 ≤ x7 then (if x7 < (x0.size : Int) then ((strings_IndexByte.f x1 (bt x0 x7)).bind fun t162 => (if t162 < 0 then (some ((⟨#[]⟩ : ByteArray), 0, 0)) else (if x7 ≤ (x0.size : Int) then (some (x0.extract 0 (x7 : Int).toNat, bt x0 x7, wrap64 (x7 + 1))) else (none)))) else (none)) else (none))))

def expr_named.f (k : Nat) (a0 : ByteArray) (a1 : ByteArray) : Option (ByteArray × Int × Int) := (expr_letters.f k a0).bind fun t161 => (if t161 < 1 then (expr_named.j0 k a0 a1 t161 true) else (expr_named.j0 k a0 a1 t161 (decide (t161 > 8))))

theorem expr_named.mono_l : ∀ k, (∀ y0 y1 y2 y3, LeO (expr_named.j0 k y0 y1 y2 y3) (expr_named.j0 (k + 1) y0 y1 y2 y3))
 | 0 => fun _ _ _ _ r h => by simp [expr_named.j0] at h
 | k + 1 => by
  ·intro y0 y1 y2 y3
   unfold expr_named.j0
   repeat' first
   | (with_reducible exact LeO.refl _)

theorem expr_named.mono : ∀ a0 a1 k, LeO (expr_named.f k a0 a1) (expr_named.f (k + 1) a0 a1) := by
 intro a0 a1 k
 have ih0 := expr_named.mono_l k
 unfold expr_named.f
 repeat' first
  | (with_reducible exact ih0 _ _ _ _)
  | (with_reducible exact expr_letters.mono _ _)
  | (with_reducible refine LeO.ite ?_ ?_)
  | (with_reducible refine LeO.bind ?_ (fun _ => ?_))

mutual
def expr_parser_next.j1 : Nat → List (S56) → ByteArray → Int → Int → Int → ByteArray → Int → Int → Int → Int → Int → Option (ByteArray × Int × Int × Int × ByteArray × Int × Int × Int × Int × Int)
 | 0, _, _, _, _, _, _, _, _, _, _, _ => none
 | k + 1, x1000, x1001, x1002, x1003, x1004, x1005, x1006, x1007, x1008, x1009, x1010 => if 0 ≤ x1002 then (if x1002 ≤ (x1001.size : Int) then ((some (x1001.extract (x1002 : Int).toNat x1001.size : ByteArray)).bind fun y163 => (if y163.toList = ([] : List UInt8) then (some (x1001, x1002, x1002, 1, (⟨#[]⟩ : ByteArray), 0, 0, x1008, x1009, x1010)) else (if 0 < (y163.size : Int) then ((strings_IndexByte.f (⟨#[48, 49, 40, 41, 124, 42]⟩ : ByteArray) (bt y163 0)).bind fun t164 => (if t164 ≥ 0 then (some (x1001, x1002, wrap64 (x1002 + 1), 3, (⟨#[]⟩ : ByteArray), 0, bt y163 0, x1008, x1009, x1010)) else ((strings_HasPrefix.f y163 (⟨#[60, 47]⟩ : ByteArray)).bind fun t165 => (if t165 = true then (if 2 ≤ (y163.size : Int) then ((expr_named.f k (y163.extract 2 y163.size) (⟨#[62]⟩ : ByteArray)).bind fun bt167 => (if bt167.2.2 > 0 then (some (x1001, x1002, wrap64 ((wrap64 (x1002 + 2)) + bt167.2.2), 4, bt167.1, 2, 0, x1008, x1009, x1010)) else (some (x1001, x1002, x1002, 2, (⟨#[]⟩ : ByteArray), 0, 0, x1008, x1009, x1010)))) else (none)) else (if (bt y163 0) = 60 then (if 1 ≤ (y163.size : Int) then ((expr_named.f k (y163.extract 1 y163.size) (⟨#[62, 91]⟩ : ByteArray)).bind fun bt171 => (if bt171.2.2 > 0 then (if bt171.2.1 = 91 then (some (x1001, x1002, wrap64 ((wrap64 (x1002 + 1)) + bt171.2.2), 5, bt171.1, 1, 0, x1008, x1009, x1010)) else (some (x1001, x1002, wrap64 ((wrap64 (x1002 + 1)) + bt171.2.2), 4, bt171.1, 1, 0, x1008, x1009, x1010))) else (some (x1001, x1002, x1002, 2, (⟨#[]⟩ : ByteArray), 0, 0, x1008, x1009, x1010)))) else (none)) else (if (bt y163 0) = 93 then (if 1 ≤ (y163.size : Int) then ((expr_named.f k (y163.extract 1 y163.size) (⟨#[62]⟩ : ByteArray)).bind fun bt175 => (if bt175.2.2 > 0 then (some (x1001, x1002, wrap64 ((wrap64 (x1002 + 1)) + bt175.2.2), 6, bt175.1, 2, 0, x1008, x1009, x1010)) else (some (x1001, x1002, x1002, 2, (⟨#[]⟩ : ByteArray), 0, 0, x1008, x1009, x1010)))) else (none)) else ((expr_named.f k y163 (⟨#[]⟩ : ByteArray)).bind fun bt178 => (if bt178.2.2 > 0 then (some (x1001, x1002, wrap64 (x1002 + bt178.2.2), 4, bt178.1, 3, 0, x1008, x1009, x1010)) else (some (x1001, x1002, x1002, 2, (⟨#[]⟩ : ByteArray), 0, 0, x1008, x1009, x1010)))))))))) else (none)))) else (none)) else (none)
def expr_parser_next.l0 : Nat → List (S56) → ByteArray → Int → Int → Int → ByteArray → Int → Int → Int → Int → Int → Option (ByteArray × Int × Int × Int × ByteArray × Int × Int × Int × Int × Int)
 | 0, _, _, _, _, _, _, _, _, _, _, _ => none
 | k + 1, x1000, x1001, x1002, x1003, x1004, x1005, x1006, x1007, x1008, x1009, x1010 => if x1002 < (x1001.size : Int) then (if 0 ≤ x1002 then (if (bt x1001 x1002) = 32 then (expr_parser_next.l0 k x1000 x1001 (wrap64 (x1002 + 1)) x1003 x1004 x1005 x1006 x1007 x1008 x1009 x1010) else (expr_parser_next.j1 k x1000 x1001 x1002 x1003 x1004 x1005 x1006 x1007 x1008 x1009 x1010)) else (none)) else (expr_parser_next.j1 k x1000 x1001 x1002 x1003 x1004 x1005 x1006 x1007 x1008 x1009 x1010)
end

def expr_parser_next.f (k : Nat) (s0_0 : List (S56)) (s0_1 : ByteArray) (s0_2 : Int) (s0_3 : Int) (s0_4 : Int) (s0_5 : ByteArray) (s0_6 : Int) (s0_7 : Int) (s0_8 : Int) (s0_9 : Int) (s0_10 : Int) : Option (ByteArray × Int × Int × Int × ByteArray × Int × Int × Int × Int × Int) := expr_parser_next.l0 k s0_0 s0_1 s0_3 s0_3 s0_4 s0_5 s0_6 s0_7 s0_8 s0_9 s0_10

theorem expr_parser_next.mono_l : ∀ k, (∀ y0 y1 y2 y3 y4 y5 y6 y7 y8 y9 y10, LeO (expr_parser_next.j1 k y0 y1 y2 y3 y4 y5 y6 y7 y8 y9 y10) (expr_parser_next.j1 (k + 1) y0 y1 y2 y3 y4 y5 y6 y7 y8 y9 y10)) ∧ (∀ y0 y1 y2 y3 y4 y5 y6 y7 y8 y9 y10, LeO (expr_parser_next.l0 k y0 y1 y2 y3 y4 y5 y6 y7 y8 y9 y10) (expr_parser_next.l0 (k + 1) y0 y1 y2 y3 y4 y5 y6 y7 y8 y9 y10))
 | 0 => ⟨fun _ _ _ _ _ _ _ _ _ _ _ r h => by simp [expr_parser_next.j1] at h, fun _ _ _ _ _ _ _ _ _ _ _ r h => by simp [expr_parser_next.l0] at h⟩
 | k + 1 => by
  obtain ⟨ih0, ih1⟩ := expr_parser_next.mono_l k
  refine ⟨?_, ?_⟩
  ·intro y0 y1 y2 y3 y4 y5 y6 y7 y8 y9 y10
   unfold expr_parser_next.j1
   repeat' first
   | (with_reducible exact expr_named.mono _ _ _)
   | (with_reducible exact LeO.refl _)
   | (with_reducible refine LeO.ite ?_ ?_)
   | (with_reducible refine LeO.bind ?_ (fun _ => ?_))
  intro y0 y1 y2 y3 y4 y5 y6 y7 y8 y9 y10
  unfold expr_parser_next.l0
  repeat' first
  | (with_reducible exact ih0 _ _ _ _ _ _ _ _ _ _ _)
  | (with_reducible exact ih1 _ _ _ _ _ _ _ _ _ _ _)
  | (with_reducible exact LeO.refl _)
  | (with_reducible refine LeO.ite ?_ ?_)

theorem expr_parser_next.mono : ∀ a0 a1 a2 a3 a4 a5 a6 a7 a8 a9 a10 k, LeO (expr_parser_next.f k a0 a1 a2 a3 a4 a5 a6 a7 a8 a9 a10) (expr_parser_next.f (k + 1) a0 a1 a2 a3 a4 a5 a6 a7 a8 a9 a10) := by
 intro a0 a1 a2 a3 a4 a5 a6 a7 a8 a9 a10 k
 obtain ⟨ih0, ih1⟩ := expr_parser_next.mono_l k
 unfold expr_parser_next.f
 repeat' first
  | (with_reducible exact ih1 _ _ _ _ _ _ _ _ _ _ _)

def expr_several.f (a0 : Int) (l1 : List (S28)) : Option (Int × Int × Int × (List (S28))) := if (l1.length : Int) = 1 then (if 0 < (l1.length : Int) then (some ((rd_T28 l1 0).f0, (rd_T28 l1 0).f1, (rd_T28 l1 0).f2, (rd_T28 l1 0).f3)) else (none)) else (some (a0, 0, 0, (l1.take ((l1.length : Int) : Int).toNat)))

def expr_parser_is.f (s0_0 : List (S56)) (s0_1 : ByteArray) (s0_2 : Int) (s0_3 : Int) (s0_4 : Int) (s0_5 : ByteArray) (s0_6 : Int) (s0_7 : Int) (s0_8 : Int) (s0_9 : Int) (s0_10 : Int) (a1 : Int) : Option (Bool × ByteArray × Int × Int × Int × ByteArray × Int × Int × Int × Int × Int) := some ((s0_4 == 3 && ((s0_5.toList == ([] : List UInt8) && (s0_6 == 0)) && (s0_7 == a1))), s0_1, s0_2, s0_3, s0_4, s0_5, s0_6, s0_7, s0_8, s0_9, s0_10)

def expr_parser_wrong.f (s0_0 : List (S56)) (s0_1 : ByteArray) (s0_2 : Int) (s0_3 : Int) (s0_4 : Int) (s0_5 : ByteArray) (s0_6 : Int) (s0_7 : Int) (s0_8 : Int) (s0_9 : Int) (s0_10 : Int) (a1 : Int) : Option (ByteArray × Int × Int × Int × ByteArray × Int × Int × Int × Int × Int) := if s0_9 = 0 then (some (s0_1, s0_2, s0_3, s0_4, s0_5, s0_6, s0_7, s0_8, a1, s0_2)) else (some (s0_1, s0_2, s0_3, s0_4, s0_5, s0_6, s0_7, s0_8, s0_9, s0_10))

def expr_parser_sym.l0 : Nat → List (S56) → Int → Int → List (S56) → ByteArray → Int → Int → Int → ByteArray → Int → Int → Int → Int → Int → Option (Int × ByteArray × Int × Int × Int × ByteArray × Int × Int × Int × Int × Int)
 | 0, _, _, _, _, _, _, _, _, _, _, _, _, _, _ => none
 | k + 1, x8, x9, x10, x1000, x1001, x1002, x1003, x1004, x1005, x1006, x1007, x1008, x1009, x1010 => if x10 < x9 then (if 0 ≤ x10 then (if x10 < (x8.length : Int) then (if ((((rd_T56 x8 x10).f0).toList) == x1005.toList && (((rd_T56 x8 x10).f1) == x1006)) = true then (some (x10, x1001, x1002, x1003, x1004, x1005, x1006, x1007, x1008, x1009, x1010)) else (expr_parser_sym.l0 k x8 x9 (wrap64 (x10 + 1)) x1000 x1001 x1002 x1003 x1004 x1005 x1006 x1007 x1008 x1009 x1010)) else (none)) else (none)) else ((expr_parser_wrong.f x1000 x1001 x1002 x1003 x1004 x1005 x1006 x1007 x1008 x1009 x1010 6).bind fun bt189 => (some (0, bt189.1, bt189.2.1, bt189.2.2.1, bt189.2.2.2.1, bt189.2.2.2.2.1, bt189.2.2.2.2.2.1, bt189.2.2.2.2.2.2.1, bt189.2.2.2.2.2.2.2.1, bt189.2.2.2.2.2.2.2.2.1, bt189.2.2.2.2.2.2.2.2.2)))

def expr_parser_sym.f (k : Nat) (s0_0 : List (S56)) (s0_1 : ByteArray) (s0_2 : Int) (s0_3 : Int) (s0_4 : Int) (s0_5 : ByteArray) (s0_6 : Int) (s0_7 : Int) (s0_8 : Int) (s0_9 : Int) (s0_10 : Int) : Option (Int × ByteArray × Int × Int × Int × ByteArray × Int × Int × Int × Int × Int) := expr_parser_sym.l0 k s0_0 (s0_0.length : Int) 0 s0_0 s0_1 s0_2 s0_3 s0_4 s0_5 s0_6 s0_7 s0_8 s0_9 s0_10

theorem expr_parser_sym.mono_l : ∀ k, (∀ y0 y1 y2 y3 y4 y5 y6 y7 y8 y9 y10 y11 y12 y13, LeO (expr_parser_sym.l0 k y0 y1 y2 y3 y4 y5 y6 y7 y8 y9 y10 y11 y12 y13) (expr_parser_sym.l0 (k + 1) y0 y1 y2 y3 y4 y5 y6 y7 y8 y9 y10 y11 y12 y13))
 | 0 => fun _ _ _ _ _ _ _ _ _ _ _ _ _ _ r h => by simp [expr_parser_sym.l0] at h
 | k + 1 => by
  have ih0 := expr_parser_sym.mono_l k
  ·intro y0 y1 y2 y3 y4 y5 y6 y7 y8 y9 y10 y11 y12 y13
   unfold expr_parser_sym.l0
   repeat' first
   | (with_reducible exact ih0 _ _ _ _ _ _ _ _ _ _ _ _ _ _)
   | (with_reducible exact LeO.refl _)
   | (with_reducible refine LeO.ite ?_ ?_)

theorem expr_parser_sym.mono : ∀ a0 a1 a2 a3 a4 a5 a6 a7 a8 a9 a10 k, LeO (expr_parser_sym.f k a0 a1 a2 a3 a4 a5 a6 a7 a8 a9 a10) (expr_parser_sym.f (k + 1) a0 a1 a2 a3 a4 a5 a6 a7 a8 a9 a10) := by
 intro a0 a1 a2 a3 a4 a5 a6 a7 a8 a9 a10 k
 have ih0 := expr_parser_sym.mono_l k
 unfold expr_parser_sym.f
 repeat' first
  | (with_reducible exact ih0 _ _ _ _ _ _ _ _ _ _ _ _ _ _)

def expr_parser_begins.f (s0_0 : List (S56)) (s0_1 : ByteArray) (s0_2 : Int) (s0_3 : Int) (s0_4 : Int) (s0_5 : ByteArray) (s0_6 : Int) (s0_7 : Int) (s0_8 : Int) (s0_9 : Int) (s0_10 : Int) : Option (Bool × ByteArray × Int × Int × Int × ByteArray × Int × Int × Int × Int × Int) := (expr_parser_is.f s0_0 s0_1 s0_2 s0_3 s0_4 s0_5 s0_6 s0_7 s0_8 s0_9 s0_10 48).bind fun bt199 => (if bt199.1 = true then (some (true, bt199.2.1, bt199.2.2.1, bt199.2.2.2.1, bt199.2.2.2.2.1, bt199.2.2.2.2.2.1, bt199.2.2.2.2.2.2.1, bt199.2.2.2.2.2.2.2.1, bt199.2.2.2.2.2.2.2.2.1, bt199.2.2.2.2.2.2.2.2.2.1, bt199.2.2.2.2.2.2.2.2.2.2)) else ((expr_parser_is.f s0_0 bt199.2.1 bt199.2.2.1 bt199.2.2.2.1 bt199.2.2.2.2.1 bt199.2.2.2.2.2.1 bt199.2.2.2.2.2.2.1 bt199.2.2.2.2.2.2.2.1 bt199.2.2.2.2.2.2.2.2.1 bt199.2.2.2.2.2.2.2.2.2.1 bt199.2.2.2.2.2.2.2.2.2.2 49).bind fun bt210 => (if bt210.1 = true then (some (true, bt210.2.1, bt210.2.2.1, bt210.2.2.2.1, bt210.2.2.2.2.1, bt210.2.2.2.2.2.1, bt210.2.2.2.2.2.2.1, bt210.2.2.2.2.2.2.2.1, bt210.2.2.2.2.2.2.2.2.1, bt210.2.2.2.2.2.2.2.2.2.1, bt210.2.2.2.2.2.2.2.2.2.2)) else ((expr_parser_is.f s0_0 bt210.2.1 bt210.2.2.1 bt210.2.2.2.1 bt210.2.2.2.2.1 bt210.2.2.2.2.2.1 bt210.2.2.2.2.2.2.1 bt210.2.2.2.2.2.2.2.1 bt210.2.2.2.2.2.2.2.2.1 bt210.2.2.2.2.2.2.2.2.2.1 bt210.2.2.2.2.2.2.2.2.2.2 40).bind fun bt221 => (if bt221.1 = true then (some (true, bt221.2.1, bt221.2.2.1, bt221.2.2.2.1, bt221.2.2.2.2.1, bt221.2.2.2.2.2.1, bt221.2.2.2.2.2.2.1, bt221.2.2.2.2.2.2.2.1, bt221.2.2.2.2.2.2.2.2.1, bt221.2.2.2.2.2.2.2.2.2.1, bt221.2.2.2.2.2.2.2.2.2.2)) else (if bt221.2.2.2.2.1 = 4 then (some (true, bt221.2.1, bt221.2.2.1, bt221.2.2.2.1, bt221.2.2.2.2.1, bt221.2.2.2.2.2.1, bt221.2.2.2.2.2.2.1, bt221.2.2.2.2.2.2.2.1, bt221.2.2.2.2.2.2.2.2.1, bt221.2.2.2.2.2.2.2.2.2.1, bt221.2.2.2.2.2.2.2.2.2.2)) else (some ((bt221.2.2.2.2.1 == 5), bt221.2.1, bt221.2.2.1, bt221.2.2.2.1, bt221.2.2.2.2.1, bt221.2.2.2.2.2.1, bt221.2.2.2.2.2.2.1, bt221.2.2.2.2.2.2.2.1, bt221.2.2.2.2.2.2.2.2.1, bt221.2.2.2.2.2.2.2.2.2.1, bt221.2.2.2.2.2.2.2.2.2.2))))))))

mutual
def expr_parser_within.j0 : Nat → List (S56) → ByteArray → Int → Int → Int → ByteArray → Int → Int → Int → Int → Int → Option (Int × Int × Int × (List (S28)) × ByteArray × Int × Int × Int × ByteArray × Int × Int × Int × Int × Int)
 | 0, _, _, _, _, _, _, _, _, _, _, _ => none
 | k + 1, x1000, x1001, x1002, x1003, x1004, x1005, x1006, x1007, x1008, x1009, x1010 => if x1009 = 0 then ((expr_parser_next.f k x1000 x1001 x1002 x1003 x1004 x1005 x1006 x1007 (wrap64 (x1008 + 1)) x1009 x1010).bind fun bt243 => ((expr_parser_or.f k x1000 bt243.1 bt243.2.1 bt243.2.2.1 bt243.2.2.2.1 bt243.2.2.2.2.1 bt243.2.2.2.2.2.1 bt243.2.2.2.2.2.2.1 bt243.2.2.2.2.2.2.2.1 bt243.2.2.2.2.2.2.2.2.1 bt243.2.2.2.2.2.2.2.2.2).bind fun bt253 => (some (bt253.1, bt253.2.1, bt253.2.2.1, bt253.2.2.2.1, bt253.2.2.2.2.1, bt253.2.2.2.2.2.1, bt253.2.2.2.2.2.2.1, bt253.2.2.2.2.2.2.2.1, bt253.2.2.2.2.2.2.2.2.1, bt253.2.2.2.2.2.2.2.2.2.1, bt253.2.2.2.2.2.2.2.2.2.2.1, wrap64 (bt253.2.2.2.2.2.2.2.2.2.2.2.1 - 1), bt253.2.2.2.2.2.2.2.2.2.2.2.2.1, bt253.2.2.2.2.2.2.2.2.2.2.2.2.2)))) else (some (0, 0, 0, ([] : List (S28)), x1001, x1002, x1003, x1004, x1005, x1006, x1007, x1008, x1009, x1010))
def expr_parser_within.f : Nat → List (S56) → ByteArray → Int → Int → Int → ByteArray → Int → Int → Int → Int → Int → Option (Int × Int × Int × (List (S28)) × ByteArray × Int × Int × Int × ByteArray × Int × Int × Int × Int × Int)
 | 0, _, _, _, _, _, _, _, _, _, _, _ => none
 | k + 1, s0_0, s0_1, s0_2, s0_3, s0_4, s0_5, s0_6, s0_7, s0_8, s0_9, s0_10 => if s0_8 > 40 then ((expr_parser_wrong.f s0_0 s0_1 s0_2 s0_3 s0_4 s0_5 s0_6 s0_7 s0_8 s0_9 s0_10 3).bind fun bt233 => (expr_parser_within.j0 k s0_0 bt233.1 bt233.2.1 bt233.2.2.1 bt233.2.2.2.1 bt233.2.2.2.2.1 bt233.2.2.2.2.2.1 bt233.2.2.2.2.2.2.1 bt233.2.2.2.2.2.2.2.1 bt233.2.2.2.2.2.2.2.2.1 bt233.2.2.2.2.2.2.2.2.2)) else (expr_parser_within.j0 k s0_0 s0_1 s0_2 s0_3 s0_4 s0_5 s0_6 s0_7 s0_8 s0_9 s0_10)
def expr_parser_atom.f : Nat → List (S56) → ByteArray → Int → Int → Int → ByteArray → Int → Int → Int → Int → Int → Option (Int × Int × Int × (List (S28)) × ByteArray × Int × Int × Int × ByteArray × Int × Int × Int × Int × Int)
 | 0, _, _, _, _, _, _, _, _, _, _, _ => none
 | k + 1, s0_0, s0_1, s0_2, s0_3, s0_4, s0_5, s0_6, s0_7, s0_8, s0_9, s0_10 => (expr_parser_is.f s0_0 s0_1 s0_2 s0_3 s0_4 s0_5 s0_6 s0_7 s0_8 s0_9 s0_10 48).bind fun bt272 => (if bt272.1 = true then ((expr_parser_next.f k s0_0 bt272.2.1 bt272.2.2.1 bt272.2.2.2.1 bt272.2.2.2.2.1 bt272.2.2.2.2.2.1 bt272.2.2.2.2.2.2.1 bt272.2.2.2.2.2.2.2.1 bt272.2.2.2.2.2.2.2.2.1 bt272.2.2.2.2.2.2.2.2.2.1 bt272.2.2.2.2.2.2.2.2.2.2).bind fun bt283 => (some (1, 0, 0, ([] : List (S28)), bt283.1, bt283.2.1, bt283.2.2.1, bt283.2.2.2.1, bt283.2.2.2.2.1, bt283.2.2.2.2.2.1, bt283.2.2.2.2.2.2.1, bt283.2.2.2.2.2.2.2.1, bt283.2.2.2.2.2.2.2.2.1, bt283.2.2.2.2.2.2.2.2.2))) else ((expr_parser_is.f s0_0 bt272.2.1 bt272.2.2.1 bt272.2.2.2.1 bt272.2.2.2.2.1 bt272.2.2.2.2.2.1 bt272.2.2.2.2.2.2.1 bt272.2.2.2.2.2.2.2.1 bt272.2.2.2.2.2.2.2.2.1 bt272.2.2.2.2.2.2.2.2.2.1 bt272.2.2.2.2.2.2.2.2.2.2 49).bind fun bt293 => (if bt293.1 = true then ((expr_parser_next.f k s0_0 bt293.2.1 bt293.2.2.1 bt293.2.2.2.1 bt293.2.2.2.2.1 bt293.2.2.2.2.2.1 bt293.2.2.2.2.2.2.1 bt293.2.2.2.2.2.2.2.1 bt293.2.2.2.2.2.2.2.2.1 bt293.2.2.2.2.2.2.2.2.2.1 bt293.2.2.2.2.2.2.2.2.2.2).bind fun bt304 => (some (2, 0, 0, ([] : List (S28)), bt304.1, bt304.2.1, bt304.2.2.1, bt304.2.2.2.1, bt304.2.2.2.2.1, bt304.2.2.2.2.2.1, bt304.2.2.2.2.2.2.1, bt304.2.2.2.2.2.2.2.1, bt304.2.2.2.2.2.2.2.2.1, bt304.2.2.2.2.2.2.2.2.2))) else ((expr_parser_is.f s0_0 bt293.2.1 bt293.2.2.1 bt293.2.2.2.1 bt293.2.2.2.2.1 bt293.2.2.2.2.2.1 bt293.2.2.2.2.2.2.1 bt293.2.2.2.2.2.2.2.1 bt293.2.2.2.2.2.2.2.2.1 bt293.2.2.2.2.2.2.2.2.2.1 bt293.2.2.2.2.2.2.2.2.2.2 40).bind fun bt314 => (if bt314.1 = true then ((expr_parser_within.f k s0_0 bt314.2.1 bt314.2.2.1 bt314.2.2.2.1 bt314.2.2.2.2.1 bt314.2.2.2.2.2.1 bt314.2.2.2.2.2.2.1 bt314.2.2.2.2.2.2.2.1 bt314.2.2.2.2.2.2.2.2.1 bt314.2.2.2.2.2.2.2.2.2.1 bt314.2.2.2.2.2.2.2.2.2.2).bind fun bt325 => ((expr_parser_is.f s0_0 bt325.2.2.2.2.1 bt325.2.2.2.2.2.1 bt325.2.2.2.2.2.2.1 bt325.2.2.2.2.2.2.2.1 bt325.2.2.2.2.2.2.2.2.1 bt325.2.2.2.2.2.2.2.2.2.1 bt325.2.2.2.2.2.2.2.2.2.2.1 bt325.2.2.2.2.2.2.2.2.2.2.2.1 bt325.2.2.2.2.2.2.2.2.2.2.2.2.1 bt325.2.2.2.2.2.2.2.2.2.2.2.2.2 41).bind fun bt341 => (if bt341.1 = true then ((expr_parser_next.f k s0_0 bt341.2.1 bt341.2.2.1 bt341.2.2.2.1 bt341.2.2.2.2.1 bt341.2.2.2.2.2.1 bt341.2.2.2.2.2.2.1 bt341.2.2.2.2.2.2.2.1 bt341.2.2.2.2.2.2.2.2.1 bt341.2.2.2.2.2.2.2.2.2.1 bt341.2.2.2.2.2.2.2.2.2.2).bind fun bt352 => (some (bt325.1, bt325.2.1, bt325.2.2.1, bt325.2.2.2.1, bt352.1, bt352.2.1, bt352.2.2.1, bt352.2.2.2.1, bt352.2.2.2.2.1, bt352.2.2.2.2.2.1, bt352.2.2.2.2.2.2.1, bt352.2.2.2.2.2.2.2.1, bt352.2.2.2.2.2.2.2.2.1, bt352.2.2.2.2.2.2.2.2.2))) else ((expr_parser_wrong.f s0_0 bt341.2.1 bt341.2.2.1 bt341.2.2.2.1 bt341.2.2.2.2.1 bt341.2.2.2.2.2.1 bt341.2.2.2.2.2.2.1 bt341.2.2.2.2.2.2.2.1 bt341.2.2.2.2.2.2.2.2.1 bt341.2.2.2.2.2.2.2.2.2.1 bt341.2.2.2.2.2.2.2.2.2.2 1).bind fun bt362 => ((expr_parser_next.f k s0_0 bt362.1 bt362.2.1 bt362.2.2.1 bt362.2.2.2.1 bt362.2.2.2.2.1 bt362.2.2.2.2.2.1 bt362.2.2.2.2.2.2.1 bt362.2.2.2.2.2.2.2.1 bt362.2.2.2.2.2.2.2.2.1 bt362.2.2.2.2.2.2.2.2.2).bind fun bt372 => (some (bt325.1, bt325.2.1, bt325.2.2.1, bt325.2.2.2.1, bt372.1, bt372.2.1, bt372.2.2.1, bt372.2.2.2.1, bt372.2.2.2.2.1, bt372.2.2.2.2.2.1, bt372.2.2.2.2.2.2.1, bt372.2.2.2.2.2.2.2.1, bt372.2.2.2.2.2.2.2.2.1, bt372.2.2.2.2.2.2.2.2.2))))))) else (if bt314.2.2.2.2.1 = 4 then ((expr_parser_sym.f k s0_0 bt314.2.1 bt314.2.2.1 bt314.2.2.2.1 bt314.2.2.2.2.1 bt314.2.2.2.2.2.1 bt314.2.2.2.2.2.2.1 bt314.2.2.2.2.2.2.2.1 bt314.2.2.2.2.2.2.2.2.1 bt314.2.2.2.2.2.2.2.2.2.1 bt314.2.2.2.2.2.2.2.2.2.2).bind fun bt382 => ((expr_parser_next.f k s0_0 bt382.2.1 bt382.2.2.1 bt382.2.2.2.1 bt382.2.2.2.2.1 bt382.2.2.2.2.2.1 bt382.2.2.2.2.2.2.1 bt382.2.2.2.2.2.2.2.1 bt382.2.2.2.2.2.2.2.2.1 bt382.2.2.2.2.2.2.2.2.2.1 bt382.2.2.2.2.2.2.2.2.2.2).bind fun bt393 => (some (3, bt382.1, 0, ([] : List (S28)), bt393.1, bt393.2.1, bt393.2.2.1, bt393.2.2.2.1, bt393.2.2.2.2.1, bt393.2.2.2.2.2.1, bt393.2.2.2.2.2.2.1, bt393.2.2.2.2.2.2.2.1, bt393.2.2.2.2.2.2.2.2.1, bt393.2.2.2.2.2.2.2.2.2)))) else (if bt314.2.2.2.2.1 = 5 then ((expr_parser_sym.f k s0_0 bt314.2.1 bt314.2.2.1 bt314.2.2.2.1 bt314.2.2.2.2.1 bt314.2.2.2.2.2.1 bt314.2.2.2.2.2.2.1 bt314.2.2.2.2.2.2.2.1 bt314.2.2.2.2.2.2.2.2.1 bt314.2.2.2.2.2.2.2.2.2.1 bt314.2.2.2.2.2.2.2.2.2.2).bind fun bt403 => ((expr_parser_within.f k s0_0 bt403.2.1 bt403.2.2.1 bt403.2.2.2.1 bt403.2.2.2.2.1 bt403.2.2.2.2.2.1 bt403.2.2.2.2.2.2.1 bt403.2.2.2.2.2.2.2.1 bt403.2.2.2.2.2.2.2.2.1 bt403.2.2.2.2.2.2.2.2.2.1 bt403.2.2.2.2.2.2.2.2.2.2).bind fun bt414 => ((some (([(⟨bt414.1, bt414.2.1, bt414.2.2.1, bt414.2.2.2.1⟩ : S28)] : List (S28)) : List (S28))).bind fun y430 => (if bt414.2.2.2.2.2.2.2.1 = 6 then ((expr_parser_sym.f k s0_0 bt414.2.2.2.2.1 bt414.2.2.2.2.2.1 bt414.2.2.2.2.2.2.1 bt414.2.2.2.2.2.2.2.1 bt414.2.2.2.2.2.2.2.2.1 bt414.2.2.2.2.2.2.2.2.2.1 bt414.2.2.2.2.2.2.2.2.2.2.1 bt414.2.2.2.2.2.2.2.2.2.2.2.1 bt414.2.2.2.2.2.2.2.2.2.2.2.2.1 bt414.2.2.2.2.2.2.2.2.2.2.2.2.2).bind fun bt433 => ((expr_parser_next.f k s0_0 bt433.2.1 bt433.2.2.1 bt433.2.2.2.1 bt433.2.2.2.2.1 bt433.2.2.2.2.2.1 bt433.2.2.2.2.2.2.1 bt433.2.2.2.2.2.2.2.1 bt433.2.2.2.2.2.2.2.2.1 bt433.2.2.2.2.2.2.2.2.2.1 bt433.2.2.2.2.2.2.2.2.2.2).bind fun bt444 => (some (4, bt403.1, bt433.1, y430, bt444.1, bt444.2.1, bt444.2.2.1, bt444.2.2.2.1, bt444.2.2.2.2.1, bt444.2.2.2.2.2.1, bt444.2.2.2.2.2.2.1, bt444.2.2.2.2.2.2.2.1, bt444.2.2.2.2.2.2.2.2.1, bt444.2.2.2.2.2.2.2.2.2)))) else ((expr_parser_wrong.f s0_0 bt414.2.2.2.2.1 bt414.2.2.2.2.2.1 bt414.2.2.2.2.2.2.1 bt414.2.2.2.2.2.2.2.1 bt414.2.2.2.2.2.2.2.2.1 bt414.2.2.2.2.2.2.2.2.2.1 bt414.2.2.2.2.2.2.2.2.2.2.1 bt414.2.2.2.2.2.2.2.2.2.2.2.1 bt414.2.2.2.2.2.2.2.2.2.2.2.2.1 bt414.2.2.2.2.2.2.2.2.2.2.2.2.2 1).bind fun bt454 => ((expr_parser_next.f k s0_0 bt454.1 bt454.2.1 bt454.2.2.1 bt454.2.2.2.1 bt454.2.2.2.2.1 bt454.2.2.2.2.2.1 bt454.2.2.2.2.2.2.1 bt454.2.2.2.2.2.2.2.1 bt454.2.2.2.2.2.2.2.2.1 bt454.2.2.2.2.2.2.2.2.2).bind fun bt464 => (some (4, bt403.1, 0, y430, bt464.1, bt464.2.1, bt464.2.2.1, bt464.2.2.2.1, bt464.2.2.2.2.1, bt464.2.2.2.2.2.1, bt464.2.2.2.2.2.2.1, bt464.2.2.2.2.2.2.2.1, bt464.2.2.2.2.2.2.2.2.1, bt464.2.2.2.2.2.2.2.2.2)))))))) else ((expr_parser_wrong.f s0_0 bt314.2.1 bt314.2.2.1 bt314.2.2.2.1 bt314.2.2.2.2.1 bt314.2.2.2.2.2.1 bt314.2.2.2.2.2.2.1 bt314.2.2.2.2.2.2.2.1 bt314.2.2.2.2.2.2.2.2.1 bt314.2.2.2.2.2.2.2.2.2.1 bt314.2.2.2.2.2.2.2.2.2.2 1).bind fun bt474 => ((expr_parser_next.f k s0_0 bt474.1 bt474.2.1 bt474.2.2.1 bt474.2.2.2.1 bt474.2.2.2.2.1 bt474.2.2.2.2.2.1 bt474.2.2.2.2.2.2.1 bt474.2.2.2.2.2.2.2.1 bt474.2.2.2.2.2.2.2.2.1 bt474.2.2.2.2.2.2.2.2.2).bind fun bt484 => (some (0, 0, 0, ([] : List (S28)), bt484.1, bt484.2.1, bt484.2.2.1, bt484.2.2.2.1, bt484.2.2.2.2.1, bt484.2.2.2.2.2.1, bt484.2.2.2.2.2.2.1, bt484.2.2.2.2.2.2.2.1, bt484.2.2.2.2.2.2.2.2.1, bt484.2.2.2.2.2.2.2.2.2)))))))))))
def expr_parser_rep.l0 : Nat → List (S56) → ByteArray → Int → Int → Int → ByteArray → Int → Int → Int → Int → Int → Int → Int → Int → List (S28) → Option (Int × Int × Int × (List (S28)) × ByteArray × Int × Int × Int × ByteArray × Int × Int × Int × Int × Int)
 | 0, _, _, _, _, _, _, _, _, _, _, _, _, _, _, _ => none
 | k + 1, x1000, x1001, x1002, x1003, x1004, x1005, x1006, x1007, x1008, x1009, x1010, x512000, x512001, x512002, x512003 => if x1009 = 0 then ((expr_parser_is.f x1000 x1001 x1002 x1003 x1004 x1005 x1006 x1007 x1008 x1009 x1010 42).bind fun bt512 => (if bt512.1 = true then ((expr_parser_next.f k x1000 bt512.2.1 bt512.2.2.1 bt512.2.2.2.1 bt512.2.2.2.2.1 bt512.2.2.2.2.2.1 bt512.2.2.2.2.2.2.1 bt512.2.2.2.2.2.2.2.1 bt512.2.2.2.2.2.2.2.2.1 bt512.2.2.2.2.2.2.2.2.2.1 bt512.2.2.2.2.2.2.2.2.2.2).bind fun bt526 => (expr_parser_rep.l0 k x1000 bt526.1 bt526.2.1 bt526.2.2.1 bt526.2.2.2.1 bt526.2.2.2.2.1 bt526.2.2.2.2.2.1 bt526.2.2.2.2.2.2.1 bt526.2.2.2.2.2.2.2.1 bt526.2.2.2.2.2.2.2.2.1 bt526.2.2.2.2.2.2.2.2.2 7 0 0 (([(⟨x512000, x512001, x512002, x512003⟩ : S28)] : List (S28))))) else (some (x512000, x512001, x512002, x512003, bt512.2.1, bt512.2.2.1, bt512.2.2.2.1, bt512.2.2.2.2.1, bt512.2.2.2.2.2.1, bt512.2.2.2.2.2.2.1, bt512.2.2.2.2.2.2.2.1, bt512.2.2.2.2.2.2.2.2.1, bt512.2.2.2.2.2.2.2.2.2.1, bt512.2.2.2.2.2.2.2.2.2.2)))) else (some (x512000, x512001, x512002, x512003, x1001, x1002, x1003, x1004, x1005, x1006, x1007, x1008, x1009, x1010))
def expr_parser_rep.f : Nat → List (S56) → ByteArray → Int → Int → Int → ByteArray → Int → Int → Int → Int → Int → Option (Int × Int × Int × (List (S28)) × ByteArray × Int × Int × Int × ByteArray × Int × Int × Int × Int × Int)
 | 0, _, _, _, _, _, _, _, _, _, _, _ => none
 | k + 1, s0_0, s0_1, s0_2, s0_3, s0_4, s0_5, s0_6, s0_7, s0_8, s0_9, s0_10 => (expr_parser_atom.f k s0_0 s0_1 s0_2 s0_3 s0_4 s0_5 s0_6 s0_7 s0_8 s0_9 s0_10).bind fun bt495 => (expr_parser_rep.l0 k s0_0 bt495.2.2.2.2.1 bt495.2.2.2.2.2.1 bt495.2.2.2.2.2.2.1 bt495.2.2.2.2.2.2.2.1 bt495.2.2.2.2.2.2.2.2.1 bt495.2.2.2.2.2.2.2.2.2.1 bt495.2.2.2.2.2.2.2.2.2.2.1 bt495.2.2.2.2.2.2.2.2.2.2.2.1 bt495.2.2.2.2.2.2.2.2.2.2.2.2.1 bt495.2.2.2.2.2.2.2.2.2.2.2.2.2 bt495.1 bt495.2.1 bt495.2.2.1 bt495.2.2.2.1)
def expr_parser_cat.l0 : Nat → List (S28) → List (S56) → ByteArray → Int → Int → Int → ByteArray → Int → Int → Int → Int → Int → Option (Int × Int × Int × (List (S28)) × ByteArray × Int × Int × Int × ByteArray × Int × Int × Int × Int × Int)
 | 0, _, _, _, _, _, _, _, _, _, _, _, _ => none
 | k + 1, x3, x1000, x1001, x1002, x1003, x1004, x1005, x1006, x1007, x1008, x1009, x1010 => if x1009 = 0 then ((expr_parser_begins.f x1000 x1001 x1002 x1003 x1004 x1005 x1006 x1007 x1008 x1009 x1010).bind fun bt556 => (if bt556.1 = true then ((expr_parser_rep.f k x1000 bt556.2.1 bt556.2.2.1 bt556.2.2.2.1 bt556.2.2.2.2.1 bt556.2.2.2.2.2.1 bt556.2.2.2.2.2.2.1 bt556.2.2.2.2.2.2.2.1 bt556.2.2.2.2.2.2.2.2.1 bt556.2.2.2.2.2.2.2.2.2.1 bt556.2.2.2.2.2.2.2.2.2.2).bind fun bt567 => (if x3.length < 2932031007402 then (expr_parser_cat.l0 k (x3 ++ [(⟨bt567.1, bt567.2.1, bt567.2.2.1, bt567.2.2.2.1⟩ : S28)]) x1000 bt567.2.2.2.2.1 bt567.2.2.2.2.2.1 bt567.2.2.2.2.2.2.1 bt567.2.2.2.2.2.2.2.1 bt567.2.2.2.2.2.2.2.2.1 bt567.2.2.2.2.2.2.2.2.2.1 bt567.2.2.2.2.2.2.2.2.2.2.1 bt567.2.2.2.2.2.2.2.2.2.2.2.1 bt567.2.2.2.2.2.2.2.2.2.2.2.2.1 bt567.2.2.2.2.2.2.2.2.2.2.2.2.2) else (none))) else ((expr_several.f 5 x3).bind fun bt586 => (some (bt586.1, bt586.2.1, bt586.2.2.1, bt586.2.2.2, bt556.2.1, bt556.2.2.1, bt556.2.2.2.1, bt556.2.2.2.2.1, bt556.2.2.2.2.2.1, bt556.2.2.2.2.2.2.1, bt556.2.2.2.2.2.2.2.1, bt556.2.2.2.2.2.2.2.2.1, bt556.2.2.2.2.2.2.2.2.2.1, bt556.2.2.2.2.2.2.2.2.2.2))))) else ((expr_several.f 5 x3).bind fun bt592 => (some (bt592.1, bt592.2.1, bt592.2.2.1, bt592.2.2.2, x1001, x1002, x1003, x1004, x1005, x1006, x1007, x1008, x1009, x1010)))
def expr_parser_cat.f : Nat → List (S56) → ByteArray → Int → Int → Int → ByteArray → Int → Int → Int → Int → Int → Option (Int × Int × Int × (List (S28)) × ByteArray × Int × Int × Int × ByteArray × Int × Int × Int × Int × Int)
 | 0, _, _, _, _, _, _, _, _, _, _, _ => none
 | k + 1, s0_0, s0_1, s0_2, s0_3, s0_4, s0_5, s0_6, s0_7, s0_8, s0_9, s0_10 => (expr_parser_rep.f k s0_0 s0_1 s0_2 s0_3 s0_4 s0_5 s0_6 s0_7 s0_8 s0_9 s0_10).bind fun bt537 => (expr_parser_cat.l0 k (([(⟨bt537.1, bt537.2.1, bt537.2.2.1, bt537.2.2.2.1⟩ : S28)] : List (S28))) s0_0 bt537.2.2.2.2.1 bt537.2.2.2.2.2.1 bt537.2.2.2.2.2.2.1 bt537.2.2.2.2.2.2.2.1 bt537.2.2.2.2.2.2.2.2.1 bt537.2.2.2.2.2.2.2.2.2.1 bt537.2.2.2.2.2.2.2.2.2.2.1 bt537.2.2.2.2.2.2.2.2.2.2.2.1 bt537.2.2.2.2.2.2.2.2.2.2.2.2.1 bt537.2.2.2.2.2.2.2.2.2.2.2.2.2)
def expr_parser_or.l0 : Nat → List (S28) → List (S56) → ByteArray → Int → Int → Int → ByteArray → Int → Int → Int → Int → Int → Option (Int × Int × Int × (List (S28)) × ByteArray × Int × Int × Int × ByteArray × Int × Int × Int × Int × Int)
 | 0, _, _, _, _, _, _, _, _, _, _, _, _ => none
 | k + 1, x3, x1000, x1001, x1002, x1003, x1004, x1005, x1006, x1007, x1008, x1009, x1010 => if x1009 = 0 then ((expr_parser_is.f x1000 x1001 x1002 x1003 x1004 x1005 x1006 x1007 x1008 x1009 x1010 124).bind fun bt618 => (expr_parser_or.j1 k x3 bt618.1 x1000 bt618.2.1 bt618.2.2.1 bt618.2.2.2.1 bt618.2.2.2.2.1 bt618.2.2.2.2.2.1 bt618.2.2.2.2.2.2.1 bt618.2.2.2.2.2.2.2.1 bt618.2.2.2.2.2.2.2.2.1 bt618.2.2.2.2.2.2.2.2.2.1 bt618.2.2.2.2.2.2.2.2.2.2)) else (expr_parser_or.j1 k x3 false x1000 x1001 x1002 x1003 x1004 x1005 x1006 x1007 x1008 x1009 x1010)
def expr_parser_or.j1 : Nat → List (S28) → Bool → List (S56) → ByteArray → Int → Int → Int → ByteArray → Int → Int → Int → Int → Int → Option (Int × Int × Int × (List (S28)) × ByteArray × Int × Int × Int × ByteArray × Int × Int × Int × Int × Int)
 | 0, _, _, _, _, _, _, _, _, _, _, _, _, _ => none
 | k + 1, x3, x15, x1000, x1001, x1002, x1003, x1004, x1005, x1006, x1007, x1008, x1009, x1010 => if x15 = true then ((expr_parser_next.f k x1000 x1001 x1002 x1003 x1004 x1005 x1006 x1007 x1008 x1009 x1010).bind fun bt629 => ((expr_parser_cat.f k x1000 bt629.1 bt629.2.1 bt629.2.2.1 bt629.2.2.2.1 bt629.2.2.2.2.1 bt629.2.2.2.2.2.1 bt629.2.2.2.2.2.2.1 bt629.2.2.2.2.2.2.2.1 bt629.2.2.2.2.2.2.2.2.1 bt629.2.2.2.2.2.2.2.2.2).bind fun bt639 => (if x3.length < 2932031007402 then (expr_parser_or.l0 k (x3 ++ [(⟨bt639.1, bt639.2.1, bt639.2.2.1, bt639.2.2.2.1⟩ : S28)]) x1000 bt639.2.2.2.2.1 bt639.2.2.2.2.2.1 bt639.2.2.2.2.2.2.1 bt639.2.2.2.2.2.2.2.1 bt639.2.2.2.2.2.2.2.2.1 bt639.2.2.2.2.2.2.2.2.2.1 bt639.2.2.2.2.2.2.2.2.2.2.1 bt639.2.2.2.2.2.2.2.2.2.2.2.1 bt639.2.2.2.2.2.2.2.2.2.2.2.2.1 bt639.2.2.2.2.2.2.2.2.2.2.2.2.2) else (none)))) else ((expr_several.f 6 x3).bind fun bt658 => (some (bt658.1, bt658.2.1, bt658.2.2.1, bt658.2.2.2, x1001, x1002, x1003, x1004, x1005, x1006, x1007, x1008, x1009, x1010)))
def expr_parser_or.f : Nat → List (S56) → ByteArray → Int → Int → Int → ByteArray → Int → Int → Int → Int → Int → Option (Int × Int × Int × (List (S28)) × ByteArray × Int × Int × Int × ByteArray × Int × Int × Int × Int × Int)
 | 0, _, _, _, _, _, _, _, _, _, _, _ => none
 | k + 1, s0_0, s0_1, s0_2, s0_3, s0_4, s0_5, s0_6, s0_7, s0_8, s0_9, s0_10 => (expr_parser_cat.f k s0_0 s0_1 s0_2 s0_3 s0_4 s0_5 s0_6 s0_7 s0_8 s0_9 s0_10).bind fun bt599 => (expr_parser_or.l0 k (([(⟨bt599.1, bt599.2.1, bt599.2.2.1, bt599.2.2.2.1⟩ : S28)] : List (S28))) s0_0 bt599.2.2.2.2.1 bt599.2.2.2.2.2.1 bt599.2.2.2.2.2.2.1 bt599.2.2.2.2.2.2.2.1 bt599.2.2.2.2.2.2.2.2.1 bt599.2.2.2.2.2.2.2.2.2.1 bt599.2.2.2.2.2.2.2.2.2.2.1 bt599.2.2.2.2.2.2.2.2.2.2.2.1 bt599.2.2.2.2.2.2.2.2.2.2.2.2.1 bt599.2.2.2.2.2.2.2.2.2.2.2.2.2)
end

theorem expr_parser_or.mono_g : ∀ k, (∀ y0 y1 y2 y3 y4 y5 y6 y7 y8 y9 y10, LeO (expr_parser_within.f k y0 y1 y2 y3 y4 y5 y6 y7 y8 y9 y10) (expr_parser_within.f (k + 1) y0 y1 y2 y3 y4 y5 y6 y7 y8 y9 y10)) ∧ (∀ y0 y1 y2 y3 y4 y5 y6 y7 y8 y9 y10, LeO (expr_parser_within.j0 k y0 y1 y2 y3 y4 y5 y6 y7 y8 y9 y10) (expr_parser_within.j0 (k + 1) y0 y1 y2 y3 y4 y5 y6 y7 y8 y9 y10)) ∧ (∀ y0 y1 y2 y3 y4 y5 y6 y7 y8 y9 y10, LeO (expr_parser_atom.f k y0 y1 y2 y3 y4 y5 y6 y7 y8 y9 y10) (expr_parser_atom.f (k + 1) y0 y1 y2 y3 y4 y5 y6 y7 y8 y9 y10)) ∧ (∀ y0 y1 y2 y3 y4 y5 y6 y7 y8 y9 y10, LeO (expr_parser_rep.f k y0 y1 y2 y3 y4 y5 y6 y7 y8 y9 y10) (expr_parser_rep.f (k + 1) y0 y1 y2 y3 y4 y5 y6 y7 y8 y9 y10)) ∧ (∀ y0 y1 y2 y3 y4 y5 y6 y7 y8 y9 y10 y11 y12 y13 y14, LeO (expr_parser_rep.l0 k y0 y1 y2 y3 y4 y5 y6 y7 y8 y9 y10 y11 y12 y13 y14) (expr_parser_rep.l0 (k + 1) y0 y1 y2 y3 y4 y5 y6 y7 y8 y9 y10 y11 y12 y13 y14)) ∧ (∀ y0 y1 y2 y3 y4 y5 y6 y7 y8 y9 y10, LeO (expr_parser_cat.f k y0 y1 y2 y3 y4 y5 y6 y7 y8 y9 y10) (expr_parser_cat.f (k + 1) y0 y1 y2 y3 y4 y5 y6 y7 y8 y9 y10)) ∧ (∀ y0 y1 y2 y3 y4 y5 y6 y7 y8 y9 y10 y11, LeO (expr_parser_cat.l0 k y0 y1 y2 y3 y4 y5 y6 y7 y8 y9 y10 y11) (expr_parser_cat.l0 (k + 1) y0 y1 y2 y3 y4 y5 y6 y7 y8 y9 y10 y11)) ∧ (∀ y0 y1 y2 y3 y4 y5 y6 y7 y8 y9 y10, LeO (expr_parser_or.f k y0 y1 y2 y3 y4 y5 y6 y7 y8 y9 y10) (expr_parser_or.f (k + 1) y0 y1 y2 y3 y4 y5 y6 y7 y8 y9 y10)) ∧ (∀ y0 y1 y2 y3 y4 y5 y6 y7 y8 y9 y10 y11, LeO (expr_parser_or.l0 k y0 y1 y2 y3 y4 y5 y6 y7 y8 y9 y10 y11) (expr_parser_or.l0 (k + 1) y0 y1 y2 y3 y4 y5 y6 y7 y8 y9 y10 y11)) ∧ (∀ y0 y1 y2 y3 y4 y5 y6 y7 y8 y9 y10 y11 y12, LeO (expr_parser_or.j1 k y0 y1 y2 y3 y4 y5 y6 y7 y8 y9 y10 y11 y12) (expr_parser_or.j1 (k + 1) y0 y1 y2 y3 y4 y5 y6 y7 y8 y9 y10 y11 y12))
 | 0 => ⟨fun _ _ _ _ _ _ _ _ _ _ _ r h => by simp [expr_parser_within.f] at h, fun _ _ _ _ _ _ _ _ _ _ _ r h => by simp [expr_parser_within.j0] at h, fun _ _ _ _ _ _ _ _ _ _ _ r h => by simp [expr_parser_atom.f] at h, fun _ _ _ _ _ _ _ _ _ _ _ r h => by simp [expr_parser_rep.f] at h, fun _ _ _ _ _ _ _ _ _ _ _ _ _ _ _ r h => by simp [expr_parser_rep.l0] at h, fun _ _ _ _ _ _ _ _ _ _ _ r h => by simp [expr_parser_cat.f] at h, fun _ _ _ _ _ _ _ _ _ _ _ _ r h => by simp [expr_parser_cat.l0] at h, fun _ _ _ _ _ _ _ _ _ _ _ r h => by simp [expr_parser_or.f] at h, fun _ _ _ _ _ _ _ _ _ _ _ _ r h => by simp [expr_parser_or.l0] at h, fun _ _ _ _ _ _ _ _ _ _ _ _ _ r h => by simp [expr_parser_or.j1] at h⟩
 | k + 1 => by
  obtain ⟨ih0, ih1, ih2, ih3, ih4, ih5, ih6, ih7, ih8, ih9⟩ := expr_parser_or.mono_g k
  refine ⟨?_, ?_, ?_, ?_, ?_, ?_, ?_, ?_, ?_, ?_⟩
  ·intro y0 y1 y2 y3 y4 y5 y6 y7 y8 y9 y10
   unfold expr_parser_within.f
   repeat' first
   | (with_reducible exact ih1 _ _ _ _ _ _ _ _ _ _ _)
   | (with_reducible exact LeO.refl _)
   | (with_reducible refine LeO.ite ?_ ?_)
   | (with_reducible refine LeO.bind ?_ (fun _ => ?_))
  ·intro y0 y1 y2 y3 y4 y5 y6 y7 y8 y9 y10
   unfold expr_parser_within.j0
   repeat' first
   | (with_reducible exact ih7 _ _ _ _ _ _ _ _ _ _ _)
   | (with_reducible exact expr_parser_next.mono _ _ _ _ _ _ _ _ _ _ _ _)
   | (with_reducible exact LeO.refl _)
   | (with_reducible refine LeO.ite ?_ ?_)
   | (with_reducible refine LeO.bind ?_ (fun _ => ?_))
  ·intro y0 y1 y2 y3 y4 y5 y6 y7 y8 y9 y10
   unfold expr_parser_atom.f
   repeat' first
   | (with_reducible exact ih0 _ _ _ _ _ _ _ _ _ _ _)
   | (with_reducible exact expr_parser_next.mono _ _ _ _ _ _ _ _ _ _ _ _)
   | (with_reducible exact expr_parser_sym.mono _ _ _ _ _ _ _ _ _ _ _ _)
   | (with_reducible exact LeO.refl _)
   | (with_reducible refine LeO.ite ?_ ?_)
   | (with_reducible refine LeO.bind ?_ (fun _ => ?_))
  ·intro y0 y1 y2 y3 y4 y5 y6 y7 y8 y9 y10
   unfold expr_parser_rep.f
   repeat' first
   | (with_reducible exact ih2 _ _ _ _ _ _ _ _ _ _ _)
   | (with_reducible exact ih4 _ _ _ _ _ _ _ _ _ _ _ _ _ _ _)
   | (with_reducible refine LeO.bind ?_ (fun _ => ?_))
  ·intro y0 y1 y2 y3 y4 y5 y6 y7 y8 y9 y10 y11 y12 y13 y14
   unfold expr_parser_rep.l0
   repeat' first
   | (with_reducible exact ih4 _ _ _ _ _ _ _ _ _ _ _ _ _ _ _)
   | (with_reducible exact expr_parser_next.mono _ _ _ _ _ _ _ _ _ _ _ _)
   | (with_reducible exact LeO.refl _)
   | (with_reducible refine LeO.ite ?_ ?_)
   | (with_reducible refine LeO.bind ?_ (fun _ => ?_))
  ·intro y0 y1 y2 y3 y4 y5 y6 y7 y8 y9 y10
   unfold expr_parser_cat.f
   repeat' first
   | (with_reducible exact ih3 _ _ _ _ _ _ _ _ _ _ _)
   | (with_reducible exact ih6 _ _ _ _ _ _ _ _ _ _ _ _)
   | (with_reducible refine LeO.bind ?_ (fun _ => ?_))
  ·intro y0 y1 y2 y3 y4 y5 y6 y7 y8 y9 y10 y11
   unfold expr_parser_cat.l0
   repeat' first
   | (with_reducible exact ih3 _ _ _ _ _ _ _ _ _ _ _)
   | (with_reducible exact ih6 _ _ _ _ _ _ _ _ _ _ _ _)
   | (with_reducible exact LeO.refl _)
   | (with_reducible refine LeO.ite ?_ ?_)
   | (with_reducible refine LeO.bind ?_ (fun _ => ?_))
  ·intro y0 y1 y2 y3 y4 y5 y6 y7 y8 y9 y10
   unfold expr_parser_or.f
   repeat' first
   | (with_reducible exact ih5 _ _ _ _ _ _ _ _ _ _ _)
   | (with_reducible exact ih8 _ _ _ _ _ _ _ _ _ _ _ _)
   | (with_reducible refine LeO.bind ?_ (fun _ => ?_))
  ·intro y0 y1 y2 y3 y4 y5 y6 y7 y8 y9 y10 y11
   unfold expr_parser_or.l0
   repeat' first
   | (with_reducible exact ih9 _ _ _ _ _ _ _ _ _ _ _ _ _)
   | (with_reducible exact LeO.refl _)
   | (with_reducible refine LeO.ite ?_ ?_)
   | (with_reducible refine LeO.bind ?_ (fun _ => ?_))
  ·intro y0 y1 y2 y3 y4 y5 y6 y7 y8 y9 y10 y11 y12
   unfold expr_parser_or.j1
   repeat' first
   | (with_reducible exact ih5 _ _ _ _ _ _ _ _ _ _ _)
   | (with_reducible exact ih8 _ _ _ _ _ _ _ _ _ _ _ _)
   | (with_reducible exact expr_parser_next.mono _ _ _ _ _ _ _ _ _ _ _ _)
   | (with_reducible exact LeO.refl _)
   | (with_reducible refine LeO.ite ?_ ?_)
   | (with_reducible refine LeO.bind ?_ (fun _ => ?_))

theorem expr_parser_or.mono : ∀ a0 a1 a2 a3 a4 a5 a6 a7 a8 a9 a10 k, LeO (expr_parser_or.f k a0 a1 a2 a3 a4 a5 a6 a7 a8 a9 a10) (expr_parser_or.f (k + 1) a0 a1 a2 a3 a4 a5 a6 a7 a8 a9 a10) := by
 intro a0 a1 a2 a3 a4 a5 a6 a7 a8 a9 a10 k
 obtain ⟨ih0, ih1, ih2, ih3, ih4, ih5, ih6, ih7, ih8, ih9⟩ := expr_parser_or.mono_g k
 exact ih7 a0 a1 a2 a3 a4 a5 a6 a7 a8 a9 a10



structure OvS where
 n : Int
 deep : Bool
 kind : Bool
 name : Bool
 loose : Bool
/-! #### the plain function -/
def ofF (l : List S56) (i : Int) : Int := if i < 0 then 0 else if i ≥ (l.length : Int) then 0 else (rd_T56 l i).f1
theorem of_ofF (l : List S56) (i : Int) : expr_of.f l i = some (ofF l i) := by
 unfold expr_of.f ofF
 by_cases h0 : i < 0
 ·rw [if_pos h0, if_pos h0]
 ·rw [if_neg h0, if_neg h0]
  by_cases h1 : i ≥ (l.length : Int)
  ·rw [if_pos h1, if_pos h1]
  ·rw [if_neg h1, if_neg h1, if_pos (by omega), if_pos (by omega)]
def shF (e : S28) : Bool :=
 if e.f0 = 1 ∨ e.f0 = 2 then e.f3.length == 0 && (e.f1 == 0 && e.f2 == 0)
 else if e.f0 = 3 then e.f3.length == 0 && e.f2 == 0
 else if e.f0 = 4 then e.f3.length == 1
 else if e.f0 = 5 ∨ e.f0 = 6 then decide (2 ≤ e.f3.length) && (e.f1 == 0 && e.f2 == 0)
 else if e.f0 = 7 then e.f3.length == 1 && (e.f1 == 0 && e.f2 == 0)
 else false
theorem shape_shF (e : S28) : expr_shape.f 3 e.f0 e.f1 e.f2 e.f3 = some (shF e) := by
 unfold expr_shape.f shF
 by_cases h1 : e.f0 = 1
 ·simp only [h1, expr_shape.j0, if_true]
  by_cases a0 : e.f3.length = 0 <;> by_cases a1 : e.f1 = 0 <;> simp [a0, a1]
 by_cases h2 : e.f0 = 2
 ·simp only [h2, expr_shape.j0, if_true]
  by_cases a0 : e.f3.length = 0 <;> by_cases a1 : e.f1 = 0 <;> simp [a0, a1]
 have b1 : (e.f0 == 1) = false := beq_eq_false_iff_ne.mpr h1
 have b2 : (e.f0 == 2) = false := beq_eq_false_iff_ne.mpr h2
 by_cases h3 : e.f0 = 3
 ·simp only [h3, expr_shape.j0]
  by_cases a0 : e.f3.length = 0 <;> simp [a0]
 by_cases h4 : e.f0 = 4
 ·simp only [h4, expr_shape.j0]
  simp
  rw [Bool.eq_iff_iff]; simp; omega
 by_cases h5 : e.f0 = 5
 ·simp only [h5, expr_shape.j0, expr_shape.j1]
  by_cases a0 : 2 ≤ e.f3.length <;> by_cases a1 : e.f1 = 0 <;> simp [a0, a1] <;> omega
 by_cases h6 : e.f0 = 6
 ·simp only [h6, expr_shape.j0, expr_shape.j1]
  by_cases a0 : 2 ≤ e.f3.length <;> by_cases a1 : e.f1 = 0 <;> simp [a0, a1] <;> omega
 by_cases h7 : e.f0 = 7
 ·simp only [h7, expr_shape.j0, expr_shape.j1]
  by_cases a0 : e.f3.length = 1
  ·by_cases a1 : e.f1 = 0 <;> simp [a0, a1]
  ·have a2 : ¬ (e.f3.length : Int) = 1 := by omega
   simp [a0, a2]
 ·have b3 : (e.f0 == 3) = false := beq_eq_false_iff_ne.mpr h3
  have b4 : (e.f0 == 4) = false := beq_eq_false_iff_ne.mpr h4
  have b5 : (e.f0 == 5) = false := beq_eq_false_iff_ne.mpr h5
  have b6 : (e.f0 == 6) = false := beq_eq_false_iff_ne.mpr h6
  simp [expr_shape.j0, expr_shape.j1, h1, h2, h3, h4, h5, h6, h7]
def ovNm (l : List S56) (e : S28) (nm : Bool) : Bool :=
 if e.f0 = 3 then nm || ofF l e.f1 == 0 else if e.f0 = 4 then nm || (ofF l e.f1 != 1 || ofF l e.f2 != 2) else nm
def ovLs (l : List S56) (e : S28) (nest ls : Bool) : Bool :=
 if e.f0 = 3 then ls || (nest && (ofF l e.f1 == 1 || ofF l e.f1 == 2)) else ls
def ovA (f : S28 → OvS → Option OvS) : List S28 → OvS → Option OvS
 | [], s => some s
 | x :: xs, s => if s.deep = true then ovA f xs s else (f x s).bind fun s' => ovA f xs s'
def ovB (f : S28 → OvS → Option OvS) : List S28 → OvS → Option OvS
 | [], s => some s
 | x :: xs, s => (f x s).bind fun s' => ovB f xs s'
def overF : Nat → List S56 → OvS → S28 → Int → Bool → Option OvS
 | 0, _, _, _, _, _ => none
 | k + 1, l, s, e, deep, nest =>
  if ((s.deep || decide (20 < deep)) || decide (200 < wrap64 (s.n + 1))) = true then ovA (fun x s => overF k l s x (wrap64 (deep + 1)) nest) e.f3 ⟨wrap64 (s.n + 1), s.deep || decide (20 < deep), s.kind, s.name, s.loose⟩
  else ovB (fun x s => overF k l s x (wrap64 (deep + 1)) (nest || e.f0 == 4)) e.f3 ⟨wrap64 (s.n + 1), s.deep || decide (20 < deep), s.kind || !shF e, ovNm l e s.name, ovLs l e nest s.loose⟩
theorem ovA_le {f g : S28 → OvS → Option OvS} (h : ∀ x s, LeO (f x s) (g x s)) : ∀ xs s, LeO (ovA f xs s) (ovA g xs s)
 | [], s => LeO.refl _
 | x :: xs, s => by
  unfold ovA
  exact LeO.ite (ovA_le h xs s) (LeO.bind (h x s) fun s' => ovA_le h xs s')
theorem ovB_le {f g : S28 → OvS → Option OvS} (h : ∀ x s, LeO (f x s) (g x s)) : ∀ xs s, LeO (ovB f xs s) (ovB g xs s)
 | [], s => LeO.refl _
 | x :: xs, s => LeO.bind (h x s) fun s' => ovB_le h xs s'
theorem overF_le : ∀ k l s e d n, LeO (overF k l s e d n) (overF (k + 1) l s e d n)
 | 0, l, s, e, d, n => by unfold overF; exact LeO.none _
 | k + 1, l, s, e, d, n => by
  unfold overF
  exact LeO.ite (ovA_le (fun x s => overF_le k l s x _ _) _ _) (ovB_le (fun x s => overF_le k l s x _ _) _ _)
def errF (s : OvS) : Int := if s.deep = true then 3 else if 200 < s.n then 2 else if s.kind = true then 7 else if s.name = true then 6 else if s.loose = true then 8 else 0
def checkF (k : Nat) (l : List S56) (e : S28) : Option Int := (overF k l ⟨0, false, false, false, false⟩ e 1 false).bind fun s => some (errF s)
theorem checkF_le (k : Nat) (l : List S56) (e : S28) : LeO (checkF k l e) (checkF (k + 1) l e) := LeO.bind (overF_le k l _ e _ _) fun _ => LeO.refl _
def expr_Check.f (k : Nat) (l0 : List (S56)) (a1_0 : Int) (a1_1 : Int) (a1_2 : Int) (l1_3 : List (S28)) : Option (Int) := checkF k l0 ⟨a1_0, a1_1, a1_2, l1_3⟩
theorem expr_Check.mono : ∀ a0 a1 a2 a3 a4 k, LeO (expr_Check.f k a0 a1 a2 a3 a4) (expr_Check.f (k + 1) a0 a1 a2 a3 a4) := fun _ _ _ _ _ k => checkF_le k _ _

def expr_Parse.j0 : Nat → List (S56) → List (S56) → ByteArray → Int → Int → Int → ByteArray → Int → Int → Int → Int → Int → Int → Int → Int → List (S28) → Option (Int × Int × Int × (List (S28)) × Int × Int)
 | 0, _, _, _, _, _, _, _, _, _, _, _, _, _, _, _, _ => none
 | k + 1, x0, x666000, x666001, x666002, x666003, x666004, x666005, x666006, x666007, x666008, x666009, x666010, x693000, x693001, x693002, x693003 => if x666009 = 0 then ((expr_Check.f k x0 x693000 x693001 x693002 x693003).bind fun t703 => (if t703 = 0 then (some (x693000, x693001, x693002, x693003, 0, 0)) else (some (0, 0, 0, ([] : List (S28)), 0, t703)))) else (some (0, 0, 0, ([] : List (S28)), x666010, x666009))

def expr_Parse.f (k : Nat) (l0 : List (S56)) (a1 : ByteArray) : Option (Int × Int × Int × (List (S28)) × Int × Int) := if (a1.size : Int) > 2000 then (some (0, 0, 0, ([] : List (S28)), 0, 2)) else ((expr_parser_next.f k l0 a1 0 0 0 (⟨#[]⟩ : ByteArray) 0 0 0 0 0).bind fun bt666 => ((expr_parser_or.f k l0 bt666.1 bt666.2.1 bt666.2.2.1 bt666.2.2.2.1 bt666.2.2.2.2.1 bt666.2.2.2.2.2.1 bt666.2.2.2.2.2.2.1 bt666.2.2.2.2.2.2.2.1 bt666.2.2.2.2.2.2.2.2.1 bt666.2.2.2.2.2.2.2.2.2).bind fun bt676 => (if bt676.2.2.2.2.2.2.2.1 = 1 then (expr_Parse.j0 k l0 l0 bt676.2.2.2.2.1 bt676.2.2.2.2.2.1 bt676.2.2.2.2.2.2.1 bt676.2.2.2.2.2.2.2.1 bt676.2.2.2.2.2.2.2.2.1 bt676.2.2.2.2.2.2.2.2.2.1 bt676.2.2.2.2.2.2.2.2.2.2.1 bt676.2.2.2.2.2.2.2.2.2.2.2.1 bt676.2.2.2.2.2.2.2.2.2.2.2.2.1 bt676.2.2.2.2.2.2.2.2.2.2.2.2.2 bt676.1 bt676.2.1 bt676.2.2.1 bt676.2.2.2.1) else ((expr_parser_wrong.f l0 bt676.2.2.2.2.1 bt676.2.2.2.2.2.1 bt676.2.2.2.2.2.2.1 bt676.2.2.2.2.2.2.2.1 bt676.2.2.2.2.2.2.2.2.1 bt676.2.2.2.2.2.2.2.2.2.1 bt676.2.2.2.2.2.2.2.2.2.2.1 bt676.2.2.2.2.2.2.2.2.2.2.2.1 bt676.2.2.2.2.2.2.2.2.2.2.2.2.1 bt676.2.2.2.2.2.2.2.2.2.2.2.2.2 1).bind fun bt693 => (expr_Parse.j0 k l0 l0 bt693.1 bt693.2.1 bt693.2.2.1 bt693.2.2.2.1 bt693.2.2.2.2.1 bt693.2.2.2.2.2.1 bt693.2.2.2.2.2.2.1 bt693.2.2.2.2.2.2.2.1 bt693.2.2.2.2.2.2.2.2.1 bt693.2.2.2.2.2.2.2.2.2 bt676.1 bt676.2.1 bt676.2.2.1 bt676.2.2.2.1)))))

theorem expr_Parse.mono_l : ∀ k, (∀ y0 y1 y2 y3 y4 y5 y6 y7 y8 y9 y10 y11 y12 y13 y14 y15, LeO (expr_Parse.j0 k y0 y1 y2 y3 y4 y5 y6 y7 y8 y9 y10 y11 y12 y13 y14 y15) (expr_Parse.j0 (k + 1) y0 y1 y2 y3 y4 y5 y6 y7 y8 y9 y10 y11 y12 y13 y14 y15))
 | 0 => fun _ _ _ _ _ _ _ _ _ _ _ _ _ _ _ _ r h => by simp [expr_Parse.j0] at h
 | k + 1 => by
  ·intro y0 y1 y2 y3 y4 y5 y6 y7 y8 y9 y10 y11 y12 y13 y14 y15
   unfold expr_Parse.j0
   repeat' first
   | (with_reducible exact expr_Check.mono _ _ _ _ _ _)
   | (with_reducible exact LeO.refl _)
   | (with_reducible refine LeO.ite ?_ ?_)
   | (with_reducible refine LeO.bind ?_ (fun _ => ?_))

theorem expr_Parse.mono : ∀ a0 a1 k, LeO (expr_Parse.f k a0 a1) (expr_Parse.f (k + 1) a0 a1) := by
 intro a0 a1 k
 have ih0 := expr_Parse.mono_l k
 unfold expr_Parse.f
 repeat' first
  | (with_reducible exact ih0 _ _ _ _ _ _ _ _ _ _ _ _ _ _ _ _)
  | (with_reducible exact expr_parser_next.mono _ _ _ _ _ _ _ _ _ _ _ _)
  | (with_reducible exact expr_parser_or.mono _ _ _ _ _ _ _ _ _ _ _ _)
  | (with_reducible exact LeO.refl _)
  | (with_reducible refine LeO.ite ?_ ?_)
  | (with_reducible refine LeO.bind ?_ (fun _ => ?_))

def expr_join.l0 : Nat → List Bool → List Bool → Int → Int → Option (List Bool)
 | 0, _, _, _, _ => none
 | k + 1, x0, x6, x7, x8 => if x8 < x7 then (if 0 ≤ x8 then (if x8 < (x6.length : Int) then (if x8 < (x0.length : Int) then (if rdOf false x0 x8 = true then (expr_join.l0 k (x0.set (x8 : Int).toNat true) x6 x7 (wrap64 (x8 + 1))) else (expr_join.l0 k (x0.set (x8 : Int).toNat (rdOf false x6 x8)) x6 x7 (wrap64 (x8 + 1)))) else (none)) else (none)) else (none)) else (some x0)

def expr_join.f (k : Nat) (l0 : List Bool) (l1 : List Bool) : Option (List Bool) := expr_join.l0 k l0 l1 (l1.length : Int) 0

theorem expr_join.mono_l : ∀ k, (∀ y0 y1 y2 y3, LeO (expr_join.l0 k y0 y1 y2 y3) (expr_join.l0 (k + 1) y0 y1 y2 y3))
 | 0 => fun _ _ _ _ r h => by simp [expr_join.l0] at h
 | k + 1 => by
  have ih0 := expr_join.mono_l k
  ·intro y0 y1 y2 y3
   unfold expr_join.l0
   repeat' first
   | (with_reducible exact ih0 _ _ _ _)
   | (with_reducible exact LeO.refl _)
   | (with_reducible refine LeO.ite ?_ ?_)

def isB (w : List Int) (i : Nat) (s : Int) : Bool := decide (i < w.length) && (rd w (i : Int) == s)
def nestL (w : List Int) (fin : Int) : List Bool → Nat → List Bool → List Bool
 | [], _, out => out
 | b :: m, k, out => nestL w fin m (k + 1) (if (b && isB w k fin) = true then out.set (k + 1) true else out)
def orL (f : S28 → Option (List Bool)) : List S28 → List Bool → Option (List Bool)
 | [], out => some out
 | c :: cs, out => (f c).bind fun m => (expr_join.f (m.length + 2) out m).bind fun o => orL f cs o
def catRow (f : Nat → Option (List Bool)) : List Bool → Nat → List Bool → Option (List Bool)
 | [], _, next => some next
 | b :: o, k, next => if b = true then (f k).bind fun m => (expr_join.f (m.length + 2) next m).bind fun n => catRow f o (k + 1) n else catRow f o (k + 1) next
def catL (f : S28 → Nat → Option (List Bool)) : List S28 → List Bool → Option (List Bool)
 | [], out => some out
 | c :: cs, out => (catRow (f c) out 0 (List.replicate out.length false)).bind fun o => catL f cs o
def starL (f : Nat → Option (List Bool)) : Nat → Nat → List Bool → Option (List Bool)
 | 0, _, _ => none
 | n + 1, k, out => if k < out.length then (if rdOf false out (k : Int) = true then (f k).bind fun m => (expr_join.f (m.length + 2) out m).bind fun o => starL f n (k + 1) o else starL f n (k + 1) out) else some out
def endF : Nat → S28 → Nat → List Int → Option (List Bool)
 | 0, _, _, _ => none
 | k + 1, t, at_, w => if at_ ≤ w.length ∧ w.length < 140737488355327 then
  (if t.f0 = 2 then some ((List.replicate (w.length + 1) false).set at_ true)
  else if t.f0 = 3 then (if isB w at_ t.f1 = true then some ((List.replicate (w.length + 1) false).set (at_ + 1) true) else some (List.replicate (w.length + 1) false))
  else if t.f0 = 4 then (if t.f3.length = 1 ∧ isB w at_ t.f1 = true then (endF k (t.f3.getD 0 z28) (at_ + 1) w).bind fun m => some (nestL w t.f2 m 0 (List.replicate (w.length + 1) false)) else some (List.replicate (w.length + 1) false))
  else if t.f0 = 6 then orL (fun c => endF k c at_ w) t.f3 (List.replicate (w.length + 1) false)
  else if t.f0 = 5 then catL (fun c j => endF k c j w) t.f3 ((List.replicate (w.length + 1) false).set at_ true)
  else if t.f0 = 7 then (if t.f3.length = 1 then starL (fun j => endF k (t.f3.getD 0 z28) j w) (w.length + 3) at_ ((List.replicate (w.length + 1) false).set at_ true) else some ((List.replicate (w.length + 1) false).set at_ true))
  else some (List.replicate (w.length + 1) false))
  else none
theorem orL_le {f g : S28 → Option (List Bool)} (h : ∀ c, LeO (f c) (g c)) : ∀ cs out, LeO (orL f cs out) (orL g cs out)
 | [], out => LeO.refl _
 | c :: cs, out => LeO.bind (h c) fun m => LeO.bind (LeO.refl _) fun o => orL_le h cs o
theorem catRow_le {f g : Nat → Option (List Bool)} (h : ∀ c, LeO (f c) (g c)) : ∀ o k n, LeO (catRow f o k n) (catRow g o k n)
 | [], k, n => LeO.refl _
 | b :: o, k, n => by
  unfold catRow
  exact LeO.ite (LeO.bind (h k) fun m => LeO.bind (LeO.refl _) fun n => catRow_le h o (k + 1) n) (catRow_le h o (k + 1) n)
theorem catL_le {f g : S28 → Nat → Option (List Bool)} (h : ∀ c j, LeO (f c j) (g c j)) : ∀ cs out, LeO (catL f cs out) (catL g cs out)
 | [], out => LeO.refl _
 | c :: cs, out => LeO.bind (catRow_le (h c) _ _ _) fun o => catL_le h cs o
theorem starL_le {f g : Nat → Option (List Bool)} (h : ∀ c, LeO (f c) (g c)) : ∀ n k out, LeO (starL f n k out) (starL g n k out)
 | 0, k, out => LeO.refl _
 | n + 1, k, out => by
  unfold starL
  exact LeO.ite (LeO.ite (LeO.bind (h k) fun m => LeO.bind (LeO.refl _) fun n' => starL_le h n (k + 1) n') (starL_le h n (k + 1) out)) (LeO.refl _)
theorem endF_le : ∀ k t a w, LeO (endF k t a w) (endF (k + 1) t a w)
 | 0, t, a, w => by unfold endF; exact LeO.none _
 | k + 1, t, a, w => by
  unfold endF
  exact LeO.ite (LeO.ite (LeO.refl _) (LeO.ite (LeO.refl _) (LeO.ite (LeO.ite (LeO.bind (endF_le k _ _ _) fun _ => LeO.refl _) (LeO.refl _)) (LeO.ite (orL_le (fun c => endF_le k c a w) _ _) (LeO.ite (catL_le (fun c j => endF_le k c j w) _ _) (LeO.ite (LeO.ite (starL_le (fun j => endF_le k _ j w) _ _ _) (LeO.refl _)) (LeO.refl _))))))) (LeO.none _)
theorem endF_up {k : Nat} {t : S28} {a : Nat} {w : List Int} {r : List Bool} (h : endF k t a w = some r) : ∀ j, endF (k + j) t a w = some r
 | 0 => h
 | j + 1 => endF_le (k + j) t a w r (endF_up h j)
theorem endF_one {k k' : Nat} {t : S28} {a : Nat} {w : List Int} {r r' : List Bool} (h : endF k t a w = some r) (h' : endF k' t a w = some r') : r = r' := by
 have h1 := endF_up h k'
 have h2 := endF_up h' k
 rw [Nat.add_comm] at h2
 exact Option.some.inj (h1.symm.trans h2)
def hasF (k : Nat) (t : S28) (w : List Int) : Option Bool := (endF k t 0 w).bind fun m => if w.length < m.length then some (rdOf false m (w.length : Int)) else none
theorem hasF_le (k : Nat) (t : S28) (w : List Int) : LeO (hasF k t w) (hasF (k + 1) t w) := LeO.bind (endF_le k t 0 w) fun _ => LeO.refl _
def expr_Has.f (k : Nat) (a0_0 : Int) (a0_1 : Int) (a0_2 : Int) (l0_3 : List (S28)) (l1 : List Int) : Option (Bool) := hasF k ⟨a0_0, a0_1, a0_2, l0_3⟩ l1
theorem expr_Has.mono : ∀ a0 a1 a2 a3 a4 k, LeO (expr_Has.f k a0 a1 a2 a3 a4) (expr_Has.f (k + 1) a0 a1 a2 a3 a4) := fun _ _ _ _ _ k => hasF_le k _ _

def canopylaw5_known.f (k : Nat)  : Option (Bool) := (canopylaw1_Syms.f 0 ([] : List Int)).bind fun t708 => ((expr_Parse.f k t708 (⟨#[60, 97, 91, 98, 42, 93, 97, 62, 124, 49]⟩ : ByteArray)).bind fun bt711 => ((expr_Text.f k t708 1 0 0 ([] : List (S28))).bind fun t720 => (if t720.toList = ([48] : List UInt8) then (if bt711.2.2.2.2.2 = 0 then (if bt711.1 = 6 then ((expr_Text.f k t708 bt711.1 bt711.2.1 bt711.2.2.1 bt711.2.2.2.1).bind fun t721 => (if t721.toList = ([60, 97, 91, 32, 98, 42, 32, 93, 97, 62, 32, 124, 32, 49] : List UInt8) then ((expr_Check.f k t708 bt711.1 bt711.2.1 bt711.2.2.1 bt711.2.2.2.1).bind fun t722 => (if t722 = 0 then ((expr_Has.f k bt711.1 bt711.2.1 bt711.2.2.1 bt711.2.2.2.1 (([0, 2, 2, 1] : List Int))).bind fun t726 => (if t726 = true then ((expr_Has.f k bt711.1 bt711.2.1 bt711.2.2.1 bt711.2.2.2.1 ([] : List Int)).bind fun t727 => (if t727 = true then ((expr_Has.f k bt711.1 bt711.2.1 bt711.2.2.1 bt711.2.2.2.1 (([2] : List Int))).bind fun t731 => (some (!t731))) else (some false))) else (some false))) else (some false))) else (some false))) else (some false)) else (some false)) else (some false))))

theorem canopylaw5_known.mono : ∀ k, LeO (canopylaw5_known.f k ) (canopylaw5_known.f (k + 1) ) := by
 intro  k
 unfold canopylaw5_known.f
 repeat' first
  | (with_reducible exact expr_Check.mono _ _ _ _ _ _)
  | (with_reducible exact expr_Has.mono _ _ _ _ _ _)
  | (with_reducible exact expr_Parse.mono _ _ _)
  | (with_reducible exact expr_Text.mono _ _ _ _ _ _)
  | (with_reducible exact LeO.refl _)
  | (with_reducible refine LeO.ite ?_ ?_)
  | (with_reducible refine LeO.bind ?_ (fun _ => ?_))

def canopylaw5_within.f (a0 : Int) (a1 : Int) : Option (Int) := if a1 = 0 then (none) else (if (Int.tmod a0 a1) < 0 then (some (wrap64 ((Int.tmod a0 a1) + a1))) else (some (Int.tmod a0 a1)))

def canopylaw5_maker_pick.l0 : Nat → Int → Int → Int → List (S56) → List Int → Int → Option (Int × Int)
 | 0, _, _, _, _, _, _ => none
 | k + 1, x1, x5, x6, x1000, x1001, x1002 => if x6 < (x1000.length : Int) then (if (x1000.length : Int) = 0 then (none) else (if 0 ≤ (Int.tmod (wrap64 (x5 + x6)) (x1000.length : Int)) then (if (Int.tmod (wrap64 (x5 + x6)) (x1000.length : Int)) < (x1000.length : Int) then (if ((rd_T56 x1000 (Int.tmod (wrap64 (x5 + x6)) (x1000.length : Int))).f1) = x1 then (some (Int.tmod (wrap64 (x5 + x6)) (x1000.length : Int), x1002)) else (canopylaw5_maker_pick.l0 k x1 x5 (wrap64 (x6 + 1)) x1000 x1001 x1002)) else (none)) else (none))) else (some ((-1), x1002))

def canopylaw5_maker_next.f (s0_0 : List (S56)) (s0_1 : List Int) (s0_2 : Int) (a1 : Int) : Option (Int × Int) := if s0_2 ≥ (s0_1.length : Int) then (some (0, s0_2)) else (if 0 ≤ (wrap64 ((wrap64 (s0_2 + 1)) - 1)) then (if (wrap64 ((wrap64 (s0_2 + 1)) - 1)) < (s0_1.length : Int) then ((canopylaw5_within.f (rd s0_1 (wrap64 ((wrap64 (s0_2 + 1)) - 1))) a1).bind fun t733 => (some (t733, wrap64 (s0_2 + 1)))) else (none)) else (none))

def canopylaw5_maker_pick.f (k : Nat) (s0_0 : List (S56)) (s0_1 : List Int) (s0_2 : Int) (a1 : Int) : Option (Int × Int) := (canopylaw5_maker_next.f s0_0 s0_1 s0_2 (s0_0.length : Int)).bind fun bt734 => (canopylaw5_maker_pick.l0 k a1 bt734.1 0 s0_0 s0_1 bt734.2)

theorem canopylaw5_maker_pick.mono_l : ∀ k, (∀ y0 y1 y2 y3 y4 y5, LeO (canopylaw5_maker_pick.l0 k y0 y1 y2 y3 y4 y5) (canopylaw5_maker_pick.l0 (k + 1) y0 y1 y2 y3 y4 y5))
 | 0 => fun _ _ _ _ _ _ r h => by simp [canopylaw5_maker_pick.l0] at h
 | k + 1 => by
  have ih0 := canopylaw5_maker_pick.mono_l k
  ·intro y0 y1 y2 y3 y4 y5
   unfold canopylaw5_maker_pick.l0
   repeat' first
   | (with_reducible exact ih0 _ _ _ _ _ _)
   | (with_reducible exact LeO.refl _)
   | (with_reducible refine LeO.ite ?_ ?_)

theorem canopylaw5_maker_pick.mono : ∀ a0 a1 a2 a3 k, LeO (canopylaw5_maker_pick.f k a0 a1 a2 a3) (canopylaw5_maker_pick.f (k + 1) a0 a1 a2 a3) := by
 intro a0 a1 a2 a3 k
 have ih0 := canopylaw5_maker_pick.mono_l k
 unfold canopylaw5_maker_pick.f
 repeat' first
  | (with_reducible exact ih0 _ _ _ _ _ _)
  | (with_reducible exact LeO.refl _)
  | (with_reducible refine LeO.bind ?_ (fun _ => ?_))

mutual
def canopylaw5_maker_make.j0 : Nat → Int → Bool → Int → List (S56) → List Int → Int → Option (Int × Int × Int × (List (S28)) × Int)
 | 0, _, _, _, _, _, _ => none
 | k + 1, x1, x2, x7, x1000, x1001, x1002 => if x7 = 0 then (some (2, 0, 0, ([] : List (S28)), x1002)) else (if x7 = 1 then (canopylaw5_maker_make.j1 k x1 x2 x7 x7 (x7 == 1) x1000 x1001 x1002) else (if x7 = 2 then (canopylaw5_maker_make.j1 k x1 x2 x7 x7 (x7 == 2) x1000 x1001 x1002) else (canopylaw5_maker_make.j1 k x1 x2 x7 x7 (x7 == 3) x1000 x1001 x1002)))
def canopylaw5_maker_make.j1 : Nat → Int → Bool → Int → Int → Bool → List (S56) → List Int → Int → Option (Int × Int × Int × (List (S28)) × Int)
 | 0, _, _, _, _, _, _, _, _ => none
 | k + 1, x1, x2, x7, x18, x22, x1000, x1001, x1002 => if x22 = true then ((canopylaw5_maker_next.f x1000 x1001 x1002 (x1000.length : Int)).bind fun bt740 => (if x2 = true then ((canopylaw5_maker_pick.f k x1000 x1001 bt740.2 3).bind fun bt742 => (if bt742.1 ≥ 0 then (some (3, bt742.1, 0, ([] : List (S28)), bt742.2)) else (some (1, 0, 0, ([] : List (S28)), bt742.2)))) else (if bt740.1 ≥ 0 then (some (3, bt740.1, 0, ([] : List (S28)), bt740.2)) else (some (1, 0, 0, ([] : List (S28)), bt740.2))))) else (if x18 = 5 then (canopylaw5_maker_make.j2 k x1 x2 x7 x18 (x18 == 5) x1000 x1001 x1002) else (if x18 = 6 then (canopylaw5_maker_make.j2 k x1 x2 x7 x18 (x18 == 6) x1000 x1001 x1002) else (canopylaw5_maker_make.j2 k x1 x2 x7 x18 (x18 == 7) x1000 x1001 x1002)))
def canopylaw5_maker_make.j2 : Nat → Int → Bool → Int → Int → Bool → List (S56) → List Int → Int → Option (Int × Int × Int × (List (S28)) × Int)
 | 0, _, _, _, _, _, _, _, _ => none
 | k + 1, x1, x2, x7, x18, x40, x1000, x1001, x1002 => if x40 = true then ((canopylaw5_maker_pick.f k x1000 x1001 x1002 1).bind fun bt744 => ((canopylaw5_maker_pick.f k x1000 x1001 bt744.2 2).bind fun bt746 => (if bt744.1 ≥ 0 then (if bt746.1 ≥ 0 then ((canopylaw5_maker_make.f k x1000 x1001 bt746.2 (wrap64 (x1 - 1)) true).bind fun bt748 => (some (4, bt744.1, bt746.1, (([(⟨bt748.1, bt748.2.1, bt748.2.2.1, bt748.2.2.2.1⟩ : S28)] : List (S28))), bt748.2.2.2.2))) else (some (1, 0, 0, ([] : List (S28)), bt746.2))) else (some (1, 0, 0, ([] : List (S28)), bt746.2))))) else (if x18 = 8 then (canopylaw5_maker_make.j3 k x1 x2 x7 x18 (x18 == 8) x1000 x1001 x1002) else (if x18 = 9 then (canopylaw5_maker_make.j3 k x1 x2 x7 x18 (x18 == 9) x1000 x1001 x1002) else (if x18 = 10 then (canopylaw5_maker_make.j3 k x1 x2 x7 x18 (x18 == 10) x1000 x1001 x1002) else (canopylaw5_maker_make.j3 k x1 x2 x7 x18 (x18 == 11) x1000 x1001 x1002))))
def canopylaw5_maker_make.j3 : Nat → Int → Bool → Int → Int → Bool → List (S56) → List Int → Int → Option (Int × Int × Int × (List (S28)) × Int)
 | 0, _, _, _, _, _, _, _, _ => none
 | k + 1, x1, x2, x7, x18, x62, x1000, x1001, x1002 => if x62 = true then ((canopylaw5_maker_make.f k x1000 x1001 x1002 (wrap64 (x1 - 1)) x2).bind fun bt758 => ((canopylaw5_maker_make.f k x1000 x1001 bt758.2.2.2.2 (wrap64 (x1 - 1)) x2).bind fun bt765 => ((some (([(⟨bt758.1, bt758.2.1, bt758.2.2.1, bt758.2.2.2.1⟩ : S28), (⟨bt765.1, bt765.2.1, bt765.2.2.1, bt765.2.2.2.1⟩ : S28)] : List (S28)) : List (S28))).bind fun y772 => ((canopylaw5_maker_next.f x1000 x1001 bt765.2.2.2.2 3).bind fun bt775 => (if bt775.1 = 0 then ((canopylaw5_maker_make.f k x1000 x1001 bt775.2 (wrap64 (x1 - 1)) x2).bind fun bt777 => (if y772.length < 2932031007402 then (some (wrap64 (5 + (Int.tmod x7 2)), 0, 0, (y772 ++ [(⟨bt777.1, bt777.2.1, bt777.2.2.1, bt777.2.2.2.1⟩ : S28)]), bt777.2.2.2.2)) else (none))) else (some (wrap64 (5 + (Int.tmod x7 2)), 0, 0, y772, bt775.2))))))) else (if x18 = 12 then ((canopylaw5_maker_make.f k x1000 x1001 x1002 (wrap64 (x1 - 1)) x2).bind fun bt787 => (some (7, 0, 0, (([(⟨bt787.1, bt787.2.1, bt787.2.2.1, bt787.2.2.2.1⟩ : S28)] : List (S28))), bt787.2.2.2.2))) else (if x18 = 13 then ((canopylaw5_maker_make.f k x1000 x1001 x1002 (wrap64 (x1 - 1)) x2).bind fun bt797 => (some (7, 0, 0, (([(⟨bt797.1, bt797.2.1, bt797.2.2.1, bt797.2.2.2.1⟩ : S28)] : List (S28))), bt797.2.2.2.2))) else (some (1, 0, 0, ([] : List (S28)), x1002))))
def canopylaw5_maker_make.f : Nat → List (S56) → List Int → Int → Int → Bool → Option (Int × Int × Int × (List (S28)) × Int)
 | 0, _, _, _, _, _ => none
 | k + 1, s0_0, s0_1, s0_2, a1, a2 => (canopylaw5_maker_next.f s0_0 s0_1 s0_2 14).bind fun bt738 => (if a1 ≤ 0 then (canopylaw5_maker_make.j0 k a1 a2 (Int.tmod bt738.1 5) s0_0 s0_1 bt738.2) else (canopylaw5_maker_make.j0 k a1 a2 bt738.1 s0_0 s0_1 bt738.2))
end

theorem canopylaw5_maker_make.mono_l : ∀ k, (∀ y0 y1 y2 y3 y4, LeO (canopylaw5_maker_make.f k y0 y1 y2 y3 y4) (canopylaw5_maker_make.f (k + 1) y0 y1 y2 y3 y4)) ∧ (∀ y0 y1 y2 y3 y4 y5, LeO (canopylaw5_maker_make.j0 k y0 y1 y2 y3 y4 y5) (canopylaw5_maker_make.j0 (k + 1) y0 y1 y2 y3 y4 y5)) ∧ (∀ y0 y1 y2 y3 y4 y5 y6 y7, LeO (canopylaw5_maker_make.j1 k y0 y1 y2 y3 y4 y5 y6 y7) (canopylaw5_maker_make.j1 (k + 1) y0 y1 y2 y3 y4 y5 y6 y7)) ∧ (∀ y0 y1 y2 y3 y4 y5 y6 y7, LeO (canopylaw5_maker_make.j2 k y0 y1 y2 y3 y4 y5 y6 y7) (canopylaw5_maker_make.j2 (k + 1) y0 y1 y2 y3 y4 y5 y6 y7)) ∧ (∀ y0 y1 y2 y3 y4 y5 y6 y7, LeO (canopylaw5_maker_make.j3 k y0 y1 y2 y3 y4 y5 y6 y7) (canopylaw5_maker_make.j3 (k + 1) y0 y1 y2 y3 y4 y5 y6 y7))
 | 0 => ⟨fun _ _ _ _ _ r h => by simp [canopylaw5_maker_make.f] at h, fun _ _ _ _ _ _ r h => by simp [canopylaw5_maker_make.j0] at h, fun _ _ _ _ _ _ _ _ r h => by simp [canopylaw5_maker_make.j1] at h, fun _ _ _ _ _ _ _ _ r h => by simp [canopylaw5_maker_make.j2] at h, fun _ _ _ _ _ _ _ _ r h => by simp [canopylaw5_maker_make.j3] at h⟩
 | k + 1 => by
  obtain ⟨ih0, ih1, ih2, ih3, ih4⟩ := canopylaw5_maker_make.mono_l k
  refine ⟨?_, ?_, ?_, ?_, ?_⟩
  ·intro y0 y1 y2 y3 y4
   unfold canopylaw5_maker_make.f
   repeat' first
   | (with_reducible exact ih1 _ _ _ _ _ _)
   | (with_reducible exact LeO.refl _)
   | (with_reducible refine LeO.ite ?_ ?_)
   | (with_reducible refine LeO.bind ?_ (fun _ => ?_))
  ·intro y0 y1 y2 y3 y4 y5
   unfold canopylaw5_maker_make.j0
   repeat' first
   | (with_reducible exact ih2 _ _ _ _ _ _ _ _)
   | (with_reducible exact LeO.refl _)
   | (with_reducible refine LeO.ite ?_ ?_)
  ·intro y0 y1 y2 y3 y4 y5 y6 y7
   unfold canopylaw5_maker_make.j1
   repeat' first
   | (with_reducible exact ih3 _ _ _ _ _ _ _ _)
   | (with_reducible exact canopylaw5_maker_pick.mono _ _ _ _ _)
   | (with_reducible exact LeO.refl _)
   | (with_reducible refine LeO.ite ?_ ?_)
   | (with_reducible refine LeO.bind ?_ (fun _ => ?_))
  ·intro y0 y1 y2 y3 y4 y5 y6 y7
   unfold canopylaw5_maker_make.j2
   repeat' first
   | (with_reducible exact ih0 _ _ _ _ _)
   | (with_reducible exact ih4 _ _ _ _ _ _ _ _)
   | (with_reducible exact canopylaw5_maker_pick.mono _ _ _ _ _)
   | (with_reducible exact LeO.refl _)
   | (with_reducible refine LeO.ite ?_ ?_)
   | (with_reducible refine LeO.bind ?_ (fun _ => ?_))
  ·intro y0 y1 y2 y3 y4 y5 y6 y7
   unfold canopylaw5_maker_make.j3
   repeat' first
   | (with_reducible exact ih0 _ _ _ _ _)
   | (with_reducible exact LeO.refl _)
   | (with_reducible refine LeO.ite ?_ ?_)
   | (with_reducible refine LeO.bind ?_ (fun _ => ?_))

def canopylaw5_Make.f (k : Nat) (l0 : List (S56)) (l1 : List Int) (a2 : Int) : Option (Int × Int × Int × (List (S28))) := (canopylaw5_maker_make.f k l0 l1 0 a2 false).bind fun bt809 => (some (bt809.1, bt809.2.1, bt809.2.2.1, bt809.2.2.2.1))

mutual
def canopyref5_deep.l0 : Nat → Int → Int → Int → Int → Int → List (S28) → Option (Int)
 | 0, _, _, _, _, _, _ => none
 | k + 1, x3, x4, x817000, x817001, x817002, x817003 => if x4 < (x817003.length : Int) then (if 0 ≤ x4 then ((canopyref5_deep.f k ((rd_T28 x817003 x4).f0) ((rd_T28 x817003 x4).f1) ((rd_T28 x817003 x4).f2) ((rd_T28 x817003 x4).f3)).bind fun t818 => (canopyref5_deep.l0 k (mx x3 t818) (wrap64 (x4 + 1)) x817000 x817001 x817002 x817003)) else (none)) else (some (wrap64 (x3 + 1)))
def canopyref5_deep.f : Nat → Int → Int → Int → List (S28) → Option (Int)
 | 0, _, _, _, _ => none
 | k + 1, a0_0, a0_1, a0_2, l0_3 => canopyref5_deep.l0 k 0 0 a0_0 a0_1 a0_2 l0_3
end

theorem canopyref5_deep.mono_l : ∀ k, (∀ y0 y1 y2 y3, LeO (canopyref5_deep.f k y0 y1 y2 y3) (canopyref5_deep.f (k + 1) y0 y1 y2 y3)) ∧ (∀ y0 y1 y2 y3 y4 y5, LeO (canopyref5_deep.l0 k y0 y1 y2 y3 y4 y5) (canopyref5_deep.l0 (k + 1) y0 y1 y2 y3 y4 y5))
 | 0 => ⟨fun _ _ _ _ r h => by simp [canopyref5_deep.f] at h, fun _ _ _ _ _ _ r h => by simp [canopyref5_deep.l0] at h⟩
 | k + 1 => by
  obtain ⟨ih0, ih1⟩ := canopyref5_deep.mono_l k
  refine ⟨?_, ?_⟩
  ·intro y0 y1 y2 y3
   unfold canopyref5_deep.f
   repeat' first
   | (with_reducible exact ih1 _ _ _ _ _ _)
  ·intro y0 y1 y2 y3 y4 y5
   unfold canopyref5_deep.l0
   repeat' first
   | (with_reducible exact ih0 _ _ _ _)
   | (with_reducible exact ih1 _ _ _ _ _ _)
   | (with_reducible exact LeO.refl _)
   | (with_reducible refine LeO.ite ?_ ?_)
   | (with_reducible refine LeO.bind ?_ (fun _ => ?_))

theorem canopyref5_deep.mono : ∀ a0 a1 a2 a3 k, LeO (canopyref5_deep.f k a0 a1 a2 a3) (canopyref5_deep.f (k + 1) a0 a1 a2 a3) := by
 intro a0 a1 a2 a3 k
 obtain ⟨ih0, ih1⟩ := canopyref5_deep.mono_l k
 exact ih0 a0 a1 a2 a3

mutual
def canopyref5_size.l0 : Nat → Int → Int → Int → Int → Int → List (S28) → Option (Int)
 | 0, _, _, _, _, _, _ => none
 | k + 1, x3, x4, x820000, x820001, x820002, x820003 => if x4 < (x820003.length : Int) then (if 0 ≤ x4 then ((canopyref5_size.f k ((rd_T28 x820003 x4).f0) ((rd_T28 x820003 x4).f1) ((rd_T28 x820003 x4).f2) ((rd_T28 x820003 x4).f3)).bind fun t821 => (canopyref5_size.l0 k (wrap64 (x3 + t821)) (wrap64 (x4 + 1)) x820000 x820001 x820002 x820003)) else (none)) else (some x3)
def canopyref5_size.f : Nat → Int → Int → Int → List (S28) → Option (Int)
 | 0, _, _, _, _ => none
 | k + 1, a0_0, a0_1, a0_2, l0_3 => canopyref5_size.l0 k 1 0 a0_0 a0_1 a0_2 l0_3
end

theorem canopyref5_size.mono_l : ∀ k, (∀ y0 y1 y2 y3, LeO (canopyref5_size.f k y0 y1 y2 y3) (canopyref5_size.f (k + 1) y0 y1 y2 y3)) ∧ (∀ y0 y1 y2 y3 y4 y5, LeO (canopyref5_size.l0 k y0 y1 y2 y3 y4 y5) (canopyref5_size.l0 (k + 1) y0 y1 y2 y3 y4 y5))
 | 0 => ⟨fun _ _ _ _ r h => by simp [canopyref5_size.f] at h, fun _ _ _ _ _ _ r h => by simp [canopyref5_size.l0] at h⟩
 | k + 1 => by
  obtain ⟨ih0, ih1⟩ := canopyref5_size.mono_l k
  refine ⟨?_, ?_⟩
  ·intro y0 y1 y2 y3
   unfold canopyref5_size.f
   repeat' first
   | (with_reducible exact ih1 _ _ _ _ _ _)
  ·intro y0 y1 y2 y3 y4 y5
   unfold canopyref5_size.l0
   repeat' first
   | (with_reducible exact ih0 _ _ _ _)
   | (with_reducible exact ih1 _ _ _ _ _ _)
   | (with_reducible exact LeO.refl _)
   | (with_reducible refine LeO.ite ?_ ?_)
   | (with_reducible refine LeO.bind ?_ (fun _ => ?_))

theorem canopyref5_size.mono : ∀ a0 a1 a2 a3 k, LeO (canopyref5_size.f k a0 a1 a2 a3) (canopyref5_size.f (k + 1) a0 a1 a2 a3) := by
 intro a0 a1 a2 a3 k
 obtain ⟨ih0, ih1⟩ := canopyref5_size.mono_l k
 exact ih0 a0 a1 a2 a3

mutual
def canopyref5_formed.j1 : Nat → Bool → Int → Int → Int → List (S28) → Option (Bool)
 | 0, _, _, _, _, _ => none
 | k + 1, x3, x823000, x823001, x823002, x823003 => canopyref5_formed.l0 k x3 0 x823000 x823001 x823002 x823003
def canopyref5_formed.l0 : Nat → Bool → Int → Int → Int → Int → List (S28) → Option (Bool)
 | 0, _, _, _, _, _, _ => none
 | k + 1, x3, x4, x823000, x823001, x823002, x823003 => if x4 < (x823003.length : Int) then (if x3 = true then (if 0 ≤ x4 then ((canopyref5_formed.f k ((rd_T28 x823003 x4).f0) ((rd_T28 x823003 x4).f1) ((rd_T28 x823003 x4).f2) ((rd_T28 x823003 x4).f3)).bind fun t824 => (canopyref5_formed.l0 k t824 (wrap64 (x4 + 1)) x823000 x823001 x823002 x823003)) else (none)) else (some x3)) else (some x3)
def canopyref5_formed.j0 : Nat → Bool → Int → Bool → Int → Int → Int → List (S28) → Option (Bool)
 | 0, _, _, _, _, _, _, _ => none
 | k + 1, x3, x6, x7, x823000, x823001, x823002, x823003 => if x7 = true then (if (x823003.length : Int) = 0 then (if x823001 = 0 then (canopyref5_formed.j1 k (x823002 == 0) x823000 x823001 x823002 x823003) else (canopyref5_formed.j1 k false x823000 x823001 x823002 x823003)) else (canopyref5_formed.j1 k false x823000 x823001 x823002 x823003)) else (if x6 = 3 then (if (x823003.length : Int) = 0 then (canopyref5_formed.j1 k (x823002 == 0) x823000 x823001 x823002 x823003) else (canopyref5_formed.j1 k false x823000 x823001 x823002 x823003)) else (if x6 = 4 then (canopyref5_formed.j1 k ((x823003.length : Int) == 1) x823000 x823001 x823002 x823003) else (if x6 = 7 then (if (x823003.length : Int) = 1 then (if x823001 = 0 then (canopyref5_formed.j1 k (x823002 == 0) x823000 x823001 x823002 x823003) else (canopyref5_formed.j1 k false x823000 x823001 x823002 x823003)) else (canopyref5_formed.j1 k false x823000 x823001 x823002 x823003)) else (if x6 = 5 then (if (x823003.length : Int) > 1 then (if x823001 = 0 then (canopyref5_formed.j1 k (x823002 == 0) x823000 x823001 x823002 x823003) else (canopyref5_formed.j1 k false x823000 x823001 x823002 x823003)) else (canopyref5_formed.j1 k false x823000 x823001 x823002 x823003)) else (if x6 = 6 then (if (x823003.length : Int) > 1 then (if x823001 = 0 then (canopyref5_formed.j1 k (x823002 == 0) x823000 x823001 x823002 x823003) else (canopyref5_formed.j1 k false x823000 x823001 x823002 x823003)) else (canopyref5_formed.j1 k false x823000 x823001 x823002 x823003)) else (canopyref5_formed.j1 k x3 x823000 x823001 x823002 x823003))))))
def canopyref5_formed.f : Nat → Int → Int → Int → List (S28) → Option (Bool)
 | 0, _, _, _, _ => none
 | k + 1, a0_0, a0_1, a0_2, l0_3 => if a0_0 = 1 then (canopyref5_formed.j0 k false a0_0 (a0_0 == 1) a0_0 a0_1 a0_2 l0_3) else (canopyref5_formed.j0 k false a0_0 (a0_0 == 2) a0_0 a0_1 a0_2 l0_3)
end

theorem canopyref5_formed.mono_l : ∀ k, (∀ y0 y1 y2 y3, LeO (canopyref5_formed.f k y0 y1 y2 y3) (canopyref5_formed.f (k + 1) y0 y1 y2 y3)) ∧ (∀ y0 y1 y2 y3 y4, LeO (canopyref5_formed.j1 k y0 y1 y2 y3 y4) (canopyref5_formed.j1 (k + 1) y0 y1 y2 y3 y4)) ∧ (∀ y0 y1 y2 y3 y4 y5, LeO (canopyref5_formed.l0 k y0 y1 y2 y3 y4 y5) (canopyref5_formed.l0 (k + 1) y0 y1 y2 y3 y4 y5)) ∧ (∀ y0 y1 y2 y3 y4 y5 y6, LeO (canopyref5_formed.j0 k y0 y1 y2 y3 y4 y5 y6) (canopyref5_formed.j0 (k + 1) y0 y1 y2 y3 y4 y5 y6))
 | 0 => ⟨fun _ _ _ _ r h => by simp [canopyref5_formed.f] at h, fun _ _ _ _ _ r h => by simp [canopyref5_formed.j1] at h, fun _ _ _ _ _ _ r h => by simp [canopyref5_formed.l0] at h, fun _ _ _ _ _ _ _ r h => by simp [canopyref5_formed.j0] at h⟩
 | k + 1 => by
  obtain ⟨ih0, ih1, ih2, ih3⟩ := canopyref5_formed.mono_l k
  refine ⟨?_, ?_, ?_, ?_⟩
  ·intro y0 y1 y2 y3
   unfold canopyref5_formed.f
   repeat' first
   | (with_reducible exact ih3 _ _ _ _ _ _ _)
   | (with_reducible refine LeO.ite ?_ ?_)
  ·intro y0 y1 y2 y3 y4
   unfold canopyref5_formed.j1
   repeat' first
   | (with_reducible exact ih2 _ _ _ _ _ _)
  ·intro y0 y1 y2 y3 y4 y5
   unfold canopyref5_formed.l0
   repeat' first
   | (with_reducible exact ih0 _ _ _ _)
   | (with_reducible exact ih2 _ _ _ _ _ _)
   | (with_reducible exact LeO.refl _)
   | (with_reducible refine LeO.ite ?_ ?_)
   | (with_reducible refine LeO.bind ?_ (fun _ => ?_))
  ·intro y0 y1 y2 y3 y4 y5 y6
   unfold canopyref5_formed.j0
   repeat' first
   | (with_reducible exact ih1 _ _ _ _ _)
   | (with_reducible refine LeO.ite ?_ ?_)

theorem canopyref5_formed.mono : ∀ a0 a1 a2 a3 k, LeO (canopyref5_formed.f k a0 a1 a2 a3) (canopyref5_formed.f (k + 1) a0 a1 a2 a3) := by
 intro a0 a1 a2 a3 k
 obtain ⟨ih0, ih1, ih2, ih3⟩ := canopyref5_formed.mono_l k
 exact ih0 a0 a1 a2 a3

def canopyref5_is.f (l0 : List (S56)) (a1 : Int) (a2 : Int) : Option (Bool) := if a1 ≥ 0 then (if a1 < (l0.length : Int) then (if a2 = 0 then (some true) else (if 0 ≤ a1 then (some (((rd_T56 l0 a1).f1) == a2)) else (none))) else (some false)) else (some false)

mutual
def canopyref5_named.j0 : Nat → List (S56) → Bool → Int → Int → Int → List (S28) → Option (Bool)
 | 0, _, _, _, _, _, _ => none
 | k + 1, x0, x34, x827000, x827001, x827002, x827003 => if x34 = true then (some false) else (canopyref5_named.l0 k x0 0 x827000 x827001 x827002 x827003)
def canopyref5_named.l0 : Nat → List (S56) → Int → Int → Int → Int → List (S28) → Option (Bool)
 | 0, _, _, _, _, _, _ => none
 | k + 1, x0, x5, x827000, x827001, x827002, x827003 => if x5 < (x827003.length : Int) then (if 0 ≤ x5 then ((canopyref5_named.f k x0 ((rd_T28 x827003 x5).f0) ((rd_T28 x827003 x5).f1) ((rd_T28 x827003 x5).f2) ((rd_T28 x827003 x5).f3)).bind fun t833 => (if t833 = true then (canopyref5_named.l0 k x0 (wrap64 (x5 + 1)) x827000 x827001 x827002 x827003) else (some false))) else (none)) else (some true)
def canopyref5_named.f : Nat → List (S56) → Int → Int → Int → List (S28) → Option (Bool)
 | 0, _, _, _, _, _ => none
 | k + 1, l0, a1_0, a1_1, a1_2, l1_3 => if a1_0 = 3 then ((canopyref5_is.f l0 a1_1 0).bind fun t827 => (if t827 = true then (if a1_0 = 4 then ((canopyref5_is.f l0 a1_1 1).bind fun t828 => (if t828 = true then ((canopyref5_is.f l0 a1_2 2).bind fun t829 => (canopyref5_named.j0 k l0 (!t829) a1_0 a1_1 a1_2 l1_3)) else (canopyref5_named.j0 k l0 true a1_0 a1_1 a1_2 l1_3))) else (canopyref5_named.j0 k l0 false a1_0 a1_1 a1_2 l1_3)) else (canopyref5_named.j0 k l0 true a1_0 a1_1 a1_2 l1_3))) else (if a1_0 = 4 then ((canopyref5_is.f l0 a1_1 1).bind fun t830 => (if t830 = true then ((canopyref5_is.f l0 a1_2 2).bind fun t831 => (canopyref5_named.j0 k l0 (!t831) a1_0 a1_1 a1_2 l1_3)) else (canopyref5_named.j0 k l0 true a1_0 a1_1 a1_2 l1_3))) else (canopyref5_named.j0 k l0 false a1_0 a1_1 a1_2 l1_3))
end

theorem canopyref5_named.mono_l : ∀ k, (∀ y0 y1 y2 y3 y4, LeO (canopyref5_named.f k y0 y1 y2 y3 y4) (canopyref5_named.f (k + 1) y0 y1 y2 y3 y4)) ∧ (∀ y0 y1 y2 y3 y4 y5, LeO (canopyref5_named.j0 k y0 y1 y2 y3 y4 y5) (canopyref5_named.j0 (k + 1) y0 y1 y2 y3 y4 y5)) ∧ (∀ y0 y1 y2 y3 y4 y5, LeO (canopyref5_named.l0 k y0 y1 y2 y3 y4 y5) (canopyref5_named.l0 (k + 1) y0 y1 y2 y3 y4 y5))
 | 0 => ⟨fun _ _ _ _ _ r h => by simp [canopyref5_named.f] at h, fun _ _ _ _ _ _ r h => by simp [canopyref5_named.j0] at h, fun _ _ _ _ _ _ r h => by simp [canopyref5_named.l0] at h⟩
 | k + 1 => by
  obtain ⟨ih0, ih1, ih2⟩ := canopyref5_named.mono_l k
  refine ⟨?_, ?_, ?_⟩
  ·intro y0 y1 y2 y3 y4
   unfold canopyref5_named.f
   repeat' first
   | (with_reducible exact ih1 _ _ _ _ _ _)
   | (with_reducible exact LeO.refl _)
   | (with_reducible refine LeO.ite ?_ ?_)
   | (with_reducible refine LeO.bind ?_ (fun _ => ?_))
  ·intro y0 y1 y2 y3 y4 y5
   unfold canopyref5_named.j0
   repeat' first
   | (with_reducible exact ih2 _ _ _ _ _ _)
   | (with_reducible exact LeO.refl _)
   | (with_reducible refine LeO.ite ?_ ?_)
  ·intro y0 y1 y2 y3 y4 y5
   unfold canopyref5_named.l0
   repeat' first
   | (with_reducible exact ih0 _ _ _ _ _)
   | (with_reducible exact ih2 _ _ _ _ _ _)
   | (with_reducible exact LeO.refl _)
   | (with_reducible refine LeO.ite ?_ ?_)
   | (with_reducible refine LeO.bind ?_ (fun _ => ?_))

theorem canopyref5_named.mono : ∀ a0 a1 a2 a3 a4 k, LeO (canopyref5_named.f k a0 a1 a2 a3 a4) (canopyref5_named.f (k + 1) a0 a1 a2 a3 a4) := by
 intro a0 a1 a2 a3 a4 k
 obtain ⟨ih0, ih1, ih2⟩ := canopyref5_named.mono_l k
 exact ih0 a0 a1 a2 a3 a4

mutual
def canopyref5_loose.j0 : Nat → List (S56) → Bool → Bool → Int → Int → Int → List (S28) → Option (Bool)
 | 0, _, _, _, _, _, _, _ => none
 | k + 1, x0, x2, x22, x835000, x835001, x835002, x835003 => if x22 = true then (some true) else (canopyref5_loose.l0 k x0 x2 0 x835000 x835001 x835002 x835003)
def canopyref5_loose.l0 : Nat → List (S56) → Bool → Int → Int → Int → Int → List (S28) → Option (Bool)
 | 0, _, _, _, _, _, _, _ => none
 | k + 1, x0, x2, x7, x835000, x835001, x835002, x835003 => if x7 < (x835003.length : Int) then (if 0 ≤ x7 then (if x2 = true then ((canopyref5_loose.f k x0 ((rd_T28 x835003 x7).f0) ((rd_T28 x835003 x7).f1) ((rd_T28 x835003 x7).f2) ((rd_T28 x835003 x7).f3) true).bind fun t837 => (if t837 = true then (some true) else (canopyref5_loose.l0 k x0 x2 (wrap64 (x7 + 1)) x835000 x835001 x835002 x835003))) else ((canopyref5_loose.f k x0 ((rd_T28 x835003 x7).f0) ((rd_T28 x835003 x7).f1) ((rd_T28 x835003 x7).f2) ((rd_T28 x835003 x7).f3) (x835000 == 4)).bind fun t838 => (if t838 = true then (some true) else (canopyref5_loose.l0 k x0 x2 (wrap64 (x7 + 1)) x835000 x835001 x835002 x835003)))) else (none)) else (some false)
def canopyref5_loose.f : Nat → List (S56) → Int → Int → Int → List (S28) → Bool → Option (Bool)
 | 0, _, _, _, _, _, _ => none
 | k + 1, l0, a1_0, a1_1, a1_2, l1_3, a2 => if a1_0 = 3 then (if a2 = true then (if 0 ≤ a1_1 then (if a1_1 < (l0.length : Int) then (canopyref5_loose.j0 k l0 a2 (((rd_T56 l0 a1_1).f1) != 3) a1_0 a1_1 a1_2 l1_3) else (none)) else (none)) else (canopyref5_loose.j0 k l0 a2 false a1_0 a1_1 a1_2 l1_3)) else (canopyref5_loose.j0 k l0 a2 false a1_0 a1_1 a1_2 l1_3)
end

theorem canopyref5_loose.mono_l : ∀ k, (∀ y0 y1 y2 y3 y4 y5, LeO (canopyref5_loose.f k y0 y1 y2 y3 y4 y5) (canopyref5_loose.f (k + 1) y0 y1 y2 y3 y4 y5)) ∧ (∀ y0 y1 y2 y3 y4 y5 y6, LeO (canopyref5_loose.j0 k y0 y1 y2 y3 y4 y5 y6) (canopyref5_loose.j0 (k + 1) y0 y1 y2 y3 y4 y5 y6)) ∧ (∀ y0 y1 y2 y3 y4 y5 y6, LeO (canopyref5_loose.l0 k y0 y1 y2 y3 y4 y5 y6) (canopyref5_loose.l0 (k + 1) y0 y1 y2 y3 y4 y5 y6))
 | 0 => ⟨fun _ _ _ _ _ _ r h => by simp [canopyref5_loose.f] at h, fun _ _ _ _ _ _ _ r h => by simp [canopyref5_loose.j0] at h, fun _ _ _ _ _ _ _ r h => by simp [canopyref5_loose.l0] at h⟩
 | k + 1 => by
  obtain ⟨ih0, ih1, ih2⟩ := canopyref5_loose.mono_l k
  refine ⟨?_, ?_, ?_⟩
  ·intro y0 y1 y2 y3 y4 y5
   unfold canopyref5_loose.f
   repeat' first
   | (with_reducible exact ih1 _ _ _ _ _ _ _)
   | (with_reducible exact LeO.refl _)
   | (with_reducible refine LeO.ite ?_ ?_)
  ·intro y0 y1 y2 y3 y4 y5 y6
   unfold canopyref5_loose.j0
   repeat' first
   | (with_reducible exact ih2 _ _ _ _ _ _ _)
   | (with_reducible exact LeO.refl _)
   | (with_reducible refine LeO.ite ?_ ?_)
  ·intro y0 y1 y2 y3 y4 y5 y6
   unfold canopyref5_loose.l0
   repeat' first
   | (with_reducible exact ih0 _ _ _ _ _ _)
   | (with_reducible exact ih2 _ _ _ _ _ _ _)
   | (with_reducible exact LeO.refl _)
   | (with_reducible refine LeO.ite ?_ ?_)
   | (with_reducible refine LeO.bind ?_ (fun _ => ?_))

theorem canopyref5_loose.mono : ∀ a0 a1 a2 a3 a4 a5 k, LeO (canopyref5_loose.f k a0 a1 a2 a3 a4 a5) (canopyref5_loose.f (k + 1) a0 a1 a2 a3 a4 a5) := by
 intro a0 a1 a2 a3 a4 a5 k
 obtain ⟨ih0, ih1, ih2⟩ := canopyref5_loose.mono_l k
 exact ih0 a0 a1 a2 a3 a4 a5

def canopyref5_Check.f (k : Nat) (l0 : List (S56)) (a1_0 : Int) (a1_1 : Int) (a1_2 : Int) (l1_3 : List (S28)) : Option (Int) := (canopyref5_deep.f k a1_0 a1_1 a1_2 l1_3).bind fun t840 => (if t840 > 20 then (some 3) else ((canopyref5_size.f k a1_0 a1_1 a1_2 l1_3).bind fun t841 => (if t841 > 200 then (some 2) else ((canopyref5_formed.f k a1_0 a1_1 a1_2 l1_3).bind fun t842 => (if t842 = true then ((canopyref5_named.f k l0 a1_0 a1_1 a1_2 l1_3).bind fun t843 => (if t843 = true then ((canopyref5_loose.f k l0 a1_0 a1_1 a1_2 l1_3 false).bind fun t844 => (if t844 = true then (some 8) else (some 0))) else (some 6))) else (some 7))))))

mutual
def canopyref5_Same.j0 : Nat → Bool → Int → Int → Int → List (S28) → Int → Int → Int → List (S28) → Option (Bool)
 | 0, _, _, _, _, _, _, _, _, _ => none
 | k + 1, x33, x867000, x867001, x867002, x867003, x868000, x868001, x868002, x868003 => if x33 = true then (some false) else (canopyref5_Same.l0 k 0 x867000 x867001 x867002 x867003 x868000 x868001 x868002 x868003)
def canopyref5_Same.l0 : Nat → Int → Int → Int → Int → List (S28) → Int → Int → Int → List (S28) → Option (Bool)
 | 0, _, _, _, _, _, _, _, _, _ => none
 | k + 1, x5, x867000, x867001, x867002, x867003, x868000, x868001, x868002, x868003 => if x5 < (x867003.length : Int) then (if 0 ≤ x5 then (if x5 < (x868003.length : Int) then ((canopyref5_Same.f k ((rd_T28 x867003 x5).f0) ((rd_T28 x867003 x5).f1) ((rd_T28 x867003 x5).f2) ((rd_T28 x867003 x5).f3) ((rd_T28 x868003 x5).f0) ((rd_T28 x868003 x5).f1) ((rd_T28 x868003 x5).f2) ((rd_T28 x868003 x5).f3)).bind fun t870 => (if t870 = true then (canopyref5_Same.l0 k (wrap64 (x5 + 1)) x867000 x867001 x867002 x867003 x868000 x868001 x868002 x868003) else (some false))) else (none)) else (none)) else (some true)
def canopyref5_Same.f : Nat → Int → Int → Int → List (S28) → Int → Int → Int → List (S28) → Option (Bool)
 | 0, _, _, _, _, _, _, _, _ => none
 | k + 1, a0_0, a0_1, a0_2, l0_3, a1_0, a1_1, a1_2, l1_3 => if a0_0 = a1_0 then (if a0_1 = a1_1 then (if a0_2 = a1_2 then (canopyref5_Same.j0 k ((l0_3.length : Int) != (l1_3.length : Int)) a0_0 a0_1 a0_2 l0_3 a1_0 a1_1 a1_2 l1_3) else (canopyref5_Same.j0 k true a0_0 a0_1 a0_2 l0_3 a1_0 a1_1 a1_2 l1_3)) else (canopyref5_Same.j0 k true a0_0 a0_1 a0_2 l0_3 a1_0 a1_1 a1_2 l1_3)) else (canopyref5_Same.j0 k true a0_0 a0_1 a0_2 l0_3 a1_0 a1_1 a1_2 l1_3)
end

theorem canopyref5_Same.mono_l : ∀ k, (∀ y0 y1 y2 y3 y4 y5 y6 y7, LeO (canopyref5_Same.f k y0 y1 y2 y3 y4 y5 y6 y7) (canopyref5_Same.f (k + 1) y0 y1 y2 y3 y4 y5 y6 y7)) ∧ (∀ y0 y1 y2 y3 y4 y5 y6 y7 y8, LeO (canopyref5_Same.j0 k y0 y1 y2 y3 y4 y5 y6 y7 y8) (canopyref5_Same.j0 (k + 1) y0 y1 y2 y3 y4 y5 y6 y7 y8)) ∧ (∀ y0 y1 y2 y3 y4 y5 y6 y7 y8, LeO (canopyref5_Same.l0 k y0 y1 y2 y3 y4 y5 y6 y7 y8) (canopyref5_Same.l0 (k + 1) y0 y1 y2 y3 y4 y5 y6 y7 y8))
 | 0 => ⟨fun _ _ _ _ _ _ _ _ r h => by simp [canopyref5_Same.f] at h, fun _ _ _ _ _ _ _ _ _ r h => by simp [canopyref5_Same.j0] at h, fun _ _ _ _ _ _ _ _ _ r h => by simp [canopyref5_Same.l0] at h⟩
 | k + 1 => by
  obtain ⟨ih0, ih1, ih2⟩ := canopyref5_Same.mono_l k
  refine ⟨?_, ?_, ?_⟩
  ·intro y0 y1 y2 y3 y4 y5 y6 y7
   unfold canopyref5_Same.f
   repeat' first
   | (with_reducible exact ih1 _ _ _ _ _ _ _ _ _)
   | (with_reducible refine LeO.ite ?_ ?_)
  ·intro y0 y1 y2 y3 y4 y5 y6 y7 y8
   unfold canopyref5_Same.j0
   repeat' first
   | (with_reducible exact ih2 _ _ _ _ _ _ _ _ _)
   | (with_reducible exact LeO.refl _)
   | (with_reducible refine LeO.ite ?_ ?_)
  ·intro y0 y1 y2 y3 y4 y5 y6 y7 y8
   unfold canopyref5_Same.l0
   repeat' first
   | (with_reducible exact ih0 _ _ _ _ _ _ _ _)
   | (with_reducible exact ih2 _ _ _ _ _ _ _ _ _)
   | (with_reducible exact LeO.refl _)
   | (with_reducible refine LeO.ite ?_ ?_)
   | (with_reducible refine LeO.bind ?_ (fun _ => ?_))

theorem canopyref5_Same.mono : ∀ a0 a1 a2 a3 a4 a5 a6 a7 k, LeO (canopyref5_Same.f k a0 a1 a2 a3 a4 a5 a6 a7) (canopyref5_Same.f (k + 1) a0 a1 a2 a3 a4 a5 a6 a7) := by
 intro a0 a1 a2 a3 a4 a5 a6 a7 k
 obtain ⟨ih0, ih1, ih2⟩ := canopyref5_Same.mono_l k
 exact ih0 a0 a1 a2 a3 a4 a5 a6 a7

def canopyref5_reader_blanks.l0 : Nat → List (S56) → ByteArray → Int → Int → Int → Int → Option (ByteArray × Int × Int × Int × Int)
 | 0, _, _, _, _, _, _ => none
 | k + 1, x1000, x1001, x1002, x1003, x1004, x1005 => if x1002 < (x1001.size : Int) then (if 0 ≤ x1002 then (if (bt x1001 x1002) = 32 then (canopyref5_reader_blanks.l0 k x1000 x1001 (wrap64 (x1002 + 1)) x1003 x1004 x1005) else (some (x1001, x1002, x1003, x1004, x1005))) else (none)) else (some (x1001, x1002, x1003, x1004, x1005))

def canopyref5_reader_blanks.f (k : Nat) (s0_0 : List (S56)) (s0_1 : ByteArray) (s0_2 : Int) (s0_3 : Int) (s0_4 : Int) (s0_5 : Int) : Option (ByteArray × Int × Int × Int × Int) := canopyref5_reader_blanks.l0 k s0_0 s0_1 s0_2 s0_3 s0_4 s0_5

theorem canopyref5_reader_blanks.mono_l : ∀ k, (∀ y0 y1 y2 y3 y4 y5, LeO (canopyref5_reader_blanks.l0 k y0 y1 y2 y3 y4 y5) (canopyref5_reader_blanks.l0 (k + 1) y0 y1 y2 y3 y4 y5))
 | 0 => fun _ _ _ _ _ _ r h => by simp [canopyref5_reader_blanks.l0] at h
 | k + 1 => by
  have ih0 := canopyref5_reader_blanks.mono_l k
  ·intro y0 y1 y2 y3 y4 y5
   unfold canopyref5_reader_blanks.l0
   repeat' first
   | (with_reducible exact ih0 _ _ _ _ _ _)
   | (with_reducible exact LeO.refl _)
   | (with_reducible refine LeO.ite ?_ ?_)

theorem canopyref5_reader_blanks.mono : ∀ a0 a1 a2 a3 a4 a5 k, LeO (canopyref5_reader_blanks.f k a0 a1 a2 a3 a4 a5) (canopyref5_reader_blanks.f (k + 1) a0 a1 a2 a3 a4 a5) := by
 intro a0 a1 a2 a3 a4 a5 k
 have ih0 := canopyref5_reader_blanks.mono_l k
 unfold canopyref5_reader_blanks.f
 repeat' first
  | (with_reducible exact ih0 _ _ _ _ _ _)

def canopyref1_Letters.l0 : Nat → ByteArray → Int → Option (Bool)
 | 0, _, _ => none
 | k + 1, x0, x3 => if x3 < (x0.size : Int) then (if 0 ≤ x3 then (if (bt x0 x3) < 97 then (some false) else (if (bt x0 x3) > 122 then (some false) else (canopyref1_Letters.l0 k x0 (wrap64 (x3 + 1))))) else (none)) else (if (x0.size : Int) > 0 then (some (decide ((x0.size : Int) ≤ 8))) else (some false))

def canopyref1_Letters.f (k : Nat) (a0 : ByteArray) : Option (Bool) := canopyref1_Letters.l0 k a0 0

theorem canopyref1_Letters.mono_l : ∀ k, (∀ y0 y1, LeO (canopyref1_Letters.l0 k y0 y1) (canopyref1_Letters.l0 (k + 1) y0 y1))
 | 0 => fun _ _ r h => by simp [canopyref1_Letters.l0] at h
 | k + 1 => by
  have ih0 := canopyref1_Letters.mono_l k
  ·intro y0 y1
   unfold canopyref1_Letters.l0
   repeat' first
   | (with_reducible exact ih0 _ _)
   | (with_reducible exact LeO.refl _)
   | (with_reducible refine LeO.ite ?_ ?_)

theorem canopyref1_Letters.mono : ∀ a0 k, LeO (canopyref1_Letters.f k a0) (canopyref1_Letters.f (k + 1) a0) := by
 intro a0 k
 have ih0 := canopyref1_Letters.mono_l k
 unfold canopyref1_Letters.f
 repeat' first
  | (with_reducible exact ih0 _ _)

def canopyref5_reader_row.l0 : Nat → Int → Int → List (S56) → ByteArray → Int → Int → Int → Int → Option (ByteArray × ByteArray × Int × Int × Int × Int)
 | 0, _, _, _, _, _, _, _, _ => none
 | k + 1, x1, x5, l, s, q, e, p, d => if x1 < (s.size : Int) then (if 0 ≤ x1 then (if 97 ≤ (bt s x1) then (if (bt s x1) ≤ 122 then (canopyref5_reader_row.l0 k (wrap64 (x1 + 1)) x5 l s q e p d) else (if 0 ≤ x5 then (if x5 ≤ x1 then (if x1 ≤ (s.size : Int) then (some (s.extract x5.toNat x1.toNat, s, q, e, p, d)) else (none)) else (none)) else (none))) else (if 0 ≤ x5 then (if x5 ≤ x1 then (if x1 ≤ (s.size : Int) then (some (s.extract x5.toNat x1.toNat, s, q, e, p, d)) else (none)) else (none)) else (none))) else (none)) else (if 0 ≤ x5 then (if x5 ≤ x1 then (if x1 ≤ (s.size : Int) then (some (s.extract x5.toNat x1.toNat, s, q, e, p, d)) else (none)) else (none)) else (none))
def canopyref5_reader_row.f (k : Nat) (l : List (S56)) (s : ByteArray) (q e p d a1 : Int) : Option (ByteArray × ByteArray × Int × Int × Int × Int) := canopyref5_reader_row.l0 k a1 a1 l s q e p d
theorem canopyref5_reader_row.mono_l : ∀ k, (∀ y0 y1 y2 y3 y4 y5 y6 y7, LeO (canopyref5_reader_row.l0 k y0 y1 y2 y3 y4 y5 y6 y7) (canopyref5_reader_row.l0 (k + 1) y0 y1 y2 y3 y4 y5 y6 y7))
 | 0 => fun _ _ _ _ _ _ _ _ r h => by simp [canopyref5_reader_row.l0] at h
 | k + 1 => fun x1 x5 l s q e p d => by
  have ih := canopyref5_reader_row.mono_l k
  rw [canopyref5_reader_row.l0, canopyref5_reader_row.l0]
  exact LeO.ite (LeO.ite (LeO.ite (LeO.ite (ih _ _ _ _ _ _ _ _) (LeO.refl _)) (LeO.refl _)) (LeO.refl _)) (LeO.refl _)
theorem canopyref5_reader_row.mono : ∀ a0 a1 a2 a3 a4 a5 a6 k, LeO (canopyref5_reader_row.f k a0 a1 a2 a3 a4 a5 a6) (canopyref5_reader_row.f (k + 1) a0 a1 a2 a3 a4 a5 a6) := fun _ _ _ _ _ _ _ k => canopyref5_reader_row.mono_l k _ _ _ _ _ _ _ _

mutual
def canopyref5_reader_sign.j3 : Nat → Int → Int → List (S56) → ByteArray → Int → Int → Int → Int → Option (Int × ByteArray × Int × Int × ByteArray × Int × Int × Int × Int)
 | 0, _, _, _, _, _, _, _, _ => none
 | k + 1, x6, x7, x1000, x1001, x1002, x1003, x1004, x1005 => (canopyref5_reader_row.f k x1000 x1001 x1002 x1003 x1004 x1005 x7).bind fun bt903 => ((canopyref1_Letters.f k bt903.1).bind fun t909 => (if t909 = true then (if x6 ≥ 97 then (canopyref5_reader_sign.j4 k x6 (wrap64 (x7 + (bt903.1.size : Int))) bt903.1 (decide (x6 ≤ 122)) x1000 bt903.2.1 bt903.2.2.1 bt903.2.2.2.1 bt903.2.2.2.2.1 bt903.2.2.2.2.2) else (canopyref5_reader_sign.j4 k x6 (wrap64 (x7 + (bt903.1.size : Int))) bt903.1 false x1000 bt903.2.1 bt903.2.2.1 bt903.2.2.2.1 bt903.2.2.2.2.1 bt903.2.2.2.2.2)) else (some (63, (⟨#[]⟩ : ByteArray), 0, 1, bt903.2.1, bt903.2.2.1, bt903.2.2.2.1, bt903.2.2.2.2.1, bt903.2.2.2.2.2))))
def canopyref5_reader_sign.j4 : Nat → Int → Int → ByteArray → Bool → List (S56) → ByteArray → Int → Int → Int → Int → Option (Int × ByteArray × Int × Int × ByteArray × Int × Int × Int × Int)
 | 0, _, _, _, _, _, _, _, _, _, _ => none
 | k + 1, x6, x7, x8, x115, x1000, x1001, x1002, x1003, x1004, x1005 => if x115 = true then (some (97, x8, 0, wrap64 (x7 - x1002), x1001, x1002, x1003, x1004, x1005)) else (if x7 < (x1001.size : Int) then (if 0 ≤ x7 then (if (bt x1001 x7) = 62 then (some (x6, x8, bt x1001 x7, wrap64 ((wrap64 (x7 + 1)) - x1002), x1001, x1002, x1003, x1004, x1005)) else (if x6 = 60 then (if (bt x1001 x7) = 91 then (some (x6, x8, bt x1001 x7, wrap64 ((wrap64 (x7 + 1)) - x1002), x1001, x1002, x1003, x1004, x1005)) else (some (63, (⟨#[]⟩ : ByteArray), 0, 1, x1001, x1002, x1003, x1004, x1005))) else (some (63, (⟨#[]⟩ : ByteArray), 0, 1, x1001, x1002, x1003, x1004, x1005)))) else (none)) else (some (63, (⟨#[]⟩ : ByteArray), 0, 1, x1001, x1002, x1003, x1004, x1005)))
def canopyref5_reader_sign.j0 : Nat → Int → Int → Bool → List (S56) → ByteArray → Int → Int → Int → Int → Option (Int × ByteArray × Int × Int × ByteArray × Int × Int × Int × Int)
 | 0, _, _, _, _, _, _, _, _, _ => none
 | k + 1, x6, x7, x35, x1000, x1001, x1002, x1003, x1004, x1005 => if x35 = true then (some (x6, (⟨#[]⟩ : ByteArray), 0, 1, x1001, x1002, x1003, x1004, x1005)) else (if x6 ≥ 97 then (canopyref5_reader_sign.j1 k x6 x7 (decide (x6 ≤ 122)) x1000 x1001 x1002 x1003 x1004 x1005) else (canopyref5_reader_sign.j1 k x6 x7 false x1000 x1001 x1002 x1003 x1004 x1005))
def canopyref5_reader_sign.j1 : Nat → Int → Int → Bool → List (S56) → ByteArray → Int → Int → Int → Int → Option (Int × ByteArray × Int × Int × ByteArray × Int × Int × Int × Int)
 | 0, _, _, _, _, _, _, _, _, _ => none
 | k + 1, x6, x7, x59, x1000, x1001, x1002, x1003, x1004, x1005 => if x59 = true then (canopyref5_reader_sign.j3 k x6 x1002 x1000 x1001 x1002 x1003 x1004 x1005) else (if x6 = 60 then (if x7 < (x1001.size : Int) then (if 0 ≤ x7 then (canopyref5_reader_sign.j2 k x6 x7 ((bt x1001 x7) == 47) x1000 x1001 x1002 x1003 x1004 x1005) else (none)) else (canopyref5_reader_sign.j2 k x6 x7 false x1000 x1001 x1002 x1003 x1004 x1005)) else (canopyref5_reader_sign.j2 k x6 x7 false x1000 x1001 x1002 x1003 x1004 x1005))
def canopyref5_reader_sign.j2 : Nat → Int → Int → Bool → List (S56) → ByteArray → Int → Int → Int → Int → Option (Int × ByteArray × Int × Int × ByteArray × Int × Int × Int × Int)
 | 0, _, _, _, _, _, _, _, _, _ => none
 | k + 1, x6, x7, x70, x1000, x1001, x1002, x1003, x1004, x1005 => if x70 = true then (canopyref5_reader_sign.j3 k 47 (wrap64 (x7 + 1)) x1000 x1001 x1002 x1003 x1004 x1005) else (if x6 = 60 then (canopyref5_reader_sign.j3 k x6 x7 x1000 x1001 x1002 x1003 x1004 x1005) else (if x6 = 93 then (canopyref5_reader_sign.j3 k x6 x7 x1000 x1001 x1002 x1003 x1004 x1005) else (some (63, (⟨#[]⟩ : ByteArray), 0, 1, x1001, x1002, x1003, x1004, x1005))))
end

def canopyref5_reader_sign.f (k : Nat) (s0_0 : List (S56)) (s0_1 : ByteArray) (s0_2 : Int) (s0_3 : Int) (s0_4 : Int) (s0_5 : Int) : Option (Int × ByteArray × Int × Int × ByteArray × Int × Int × Int × Int) := (canopyref5_reader_blanks.f k s0_0 s0_1 s0_2 s0_3 s0_4 s0_5).bind fun bt898 => (if bt898.2.1 ≥ (bt898.1.size : Int) then (some (0, (⟨#[]⟩ : ByteArray), 0, 0, bt898.1, bt898.2.1, bt898.2.2.1, bt898.2.2.2.1, bt898.2.2.2.2)) else (if 0 ≤ bt898.2.1 then (if bt898.2.1 < (bt898.1.size : Int) then (if (bt bt898.1 bt898.2.1) = 48 then (canopyref5_reader_sign.j0 k (bt bt898.1 bt898.2.1) (wrap64 (bt898.2.1 + 1)) true s0_0 bt898.1 bt898.2.1 bt898.2.2.1 bt898.2.2.2.1 bt898.2.2.2.2) else (if (bt bt898.1 bt898.2.1) = 49 then (canopyref5_reader_sign.j0 k (bt bt898.1 bt898.2.1) (wrap64 (bt898.2.1 + 1)) true s0_0 bt898.1 bt898.2.1 bt898.2.2.1 bt898.2.2.2.1 bt898.2.2.2.2) else (if (bt bt898.1 bt898.2.1) = 40 then (canopyref5_reader_sign.j0 k (bt bt898.1 bt898.2.1) (wrap64 (bt898.2.1 + 1)) true s0_0 bt898.1 bt898.2.1 bt898.2.2.1 bt898.2.2.2.1 bt898.2.2.2.2) else (if (bt bt898.1 bt898.2.1) = 41 then (canopyref5_reader_sign.j0 k (bt bt898.1 bt898.2.1) (wrap64 (bt898.2.1 + 1)) true s0_0 bt898.1 bt898.2.1 bt898.2.2.1 bt898.2.2.2.1 bt898.2.2.2.2) else (if (bt bt898.1 bt898.2.1) = 124 then (canopyref5_reader_sign.j0 k (bt bt898.1 bt898.2.1) (wrap64 (bt898.2.1 + 1)) true s0_0 bt898.1 bt898.2.1 bt898.2.2.1 bt898.2.2.2.1 bt898.2.2.2.2) else (canopyref5_reader_sign.j0 k (bt bt898.1 bt898.2.1) (wrap64 (bt898.2.1 + 1)) ((bt bt898.1 bt898.2.1) == 42) s0_0 bt898.1 bt898.2.1 bt898.2.2.1 bt898.2.2.2.1 bt898.2.2.2.2)))))) else (none)) else (none)))

theorem canopyref5_reader_sign.mono_l : ∀ k, (∀ y0 y1 y2 y3 y4 y5 y6 y7, LeO (canopyref5_reader_sign.j3 k y0 y1 y2 y3 y4 y5 y6 y7) (canopyref5_reader_sign.j3 (k + 1) y0 y1 y2 y3 y4 y5 y6 y7)) ∧ (∀ y0 y1 y2 y3 y4 y5 y6 y7 y8 y9, LeO (canopyref5_reader_sign.j4 k y0 y1 y2 y3 y4 y5 y6 y7 y8 y9) (canopyref5_reader_sign.j4 (k + 1) y0 y1 y2 y3 y4 y5 y6 y7 y8 y9)) ∧ (∀ y0 y1 y2 y3 y4 y5 y6 y7 y8, LeO (canopyref5_reader_sign.j0 k y0 y1 y2 y3 y4 y5 y6 y7 y8) (canopyref5_reader_sign.j0 (k + 1) y0 y1 y2 y3 y4 y5 y6 y7 y8)) ∧ (∀ y0 y1 y2 y3 y4 y5 y6 y7 y8, LeO (canopyref5_reader_sign.j1 k y0 y1 y2 y3 y4 y5 y6 y7 y8) (canopyref5_reader_sign.j1 (k + 1) y0 y1 y2 y3 y4 y5 y6 y7 y8)) ∧ (∀ y0 y1 y2 y3 y4 y5 y6 y7 y8, LeO (canopyref5_reader_sign.j2 k y0 y1 y2 y3 y4 y5 y6 y7 y8) (canopyref5_reader_sign.j2 (k + 1) y0 y1 y2 y3 y4 y5 y6 y7 y8))
 | 0 => ⟨fun _ _ _ _ _ _ _ _ r h => by simp [canopyref5_reader_sign.j3] at h, fun _ _ _ _ _ _ _ _ _ _ r h => by simp [canopyref5_reader_sign.j4] at h, fun _ _ _ _ _ _ _ _ _ r h => by simp [canopyref5_reader_sign.j0] at h, fun _ _ _ _ _ _ _ _ _ r h => by simp [canopyref5_reader_sign.j1] at h, fun _ _ _ _ _ _ _ _ _ r h => by simp [canopyref5_reader_sign.j2] at h⟩
 | k + 1 => by
  obtain ⟨ih0, ih1, ih2, ih3, ih4⟩ := canopyref5_reader_sign.mono_l k
  refine ⟨?_, ?_, ?_, ?_, ?_⟩
  ·intro y0 y1 y2 y3 y4 y5 y6 y7
   unfold canopyref5_reader_sign.j3
   repeat' first
   | (with_reducible exact ih1 _ _ _ _ _ _ _ _ _ _)
   | (with_reducible exact canopyref1_Letters.mono _ _)
   | (with_reducible exact canopyref5_reader_row.mono _ _ _ _ _ _ _ _)
   | (with_reducible exact LeO.refl _)
   | (with_reducible refine LeO.ite ?_ ?_)
   | (with_reducible refine LeO.bind ?_ (fun _ => ?_))
  ·intro y0 y1 y2 y3 y4 y5 y6 y7 y8 y9
   unfold canopyref5_reader_sign.j4
   repeat' first
   | (with_reducible exact LeO.refl _)
  ·intro y0 y1 y2 y3 y4 y5 y6 y7 y8
   unfold canopyref5_reader_sign.j0
   repeat' first
   | (with_reducible exact ih3 _ _ _ _ _ _ _ _ _)
   | (with_reducible exact LeO.refl _)
   | (with_reducible refine LeO.ite ?_ ?_)
  ·intro y0 y1 y2 y3 y4 y5 y6 y7 y8
   unfold canopyref5_reader_sign.j1
   repeat' first
   | (with_reducible exact ih0 _ _ _ _ _ _ _ _)
   | (with_reducible exact ih4 _ _ _ _ _ _ _ _ _)
   | (with_reducible exact LeO.refl _)
   | (with_reducible refine LeO.ite ?_ ?_)
  ·intro y0 y1 y2 y3 y4 y5 y6 y7 y8
   unfold canopyref5_reader_sign.j2
   repeat' first
   | (with_reducible exact ih0 _ _ _ _ _ _ _ _)
   | (with_reducible exact LeO.refl _)
   | (with_reducible refine LeO.ite ?_ ?_)

theorem canopyref5_reader_sign.mono : ∀ a0 a1 a2 a3 a4 a5 k, LeO (canopyref5_reader_sign.f k a0 a1 a2 a3 a4 a5) (canopyref5_reader_sign.f (k + 1) a0 a1 a2 a3 a4 a5) := by
 intro a0 a1 a2 a3 a4 a5 k
 obtain ⟨ih0, ih1, ih2, ih3, ih4⟩ := canopyref5_reader_sign.mono_l k
 unfold canopyref5_reader_sign.f
 repeat' first
  | (with_reducible exact ih2 _ _ _ _ _ _ _ _ _)
  | (with_reducible exact canopyref5_reader_blanks.mono _ _ _ _ _ _ _)
  | (with_reducible exact LeO.refl _)
  | (with_reducible refine LeO.ite ?_ ?_)
  | (with_reducible refine LeO.bind ?_ (fun _ => ?_))

def canopyref5_reader_fail.f (s0_0 : List (S56)) (s0_1 : ByteArray) (s0_2 : Int) (s0_3 : Int) (s0_4 : Int) (s0_5 : Int) (a1 : Int) (a2 : Int) : Option (Int × Int × Int × (List (S28)) × ByteArray × Int × Int × Int × Int) := if s0_3 = 0 then (some (0, 0, 0, ([] : List (S28)), s0_1, s0_2, a1, a2, s0_5)) else (some (0, 0, 0, ([] : List (S28)), s0_1, s0_2, s0_3, s0_4, s0_5))

def canopyref1_Find.l0 : Nat → List (S56) → Int → ByteArray → Int → Option (Int)
 | 0, _, _, _, _ => none
 | k + 1, x0, x5, x912000, x912001 => if x5 < (x0.length : Int) then (if 0 ≤ x5 then (if ((((rd_T56 x0 x5).f0).toList) == x912000.toList && (((rd_T56 x0 x5).f1) == x912001)) = true then (some x5) else (canopyref1_Find.l0 k x0 (wrap64 (x5 + 1)) x912000 x912001)) else (none)) else (some (-1))

def canopyref1_Find.f (k : Nat) (l0 : List (S56)) (a1_0 : ByteArray) (a1_1 : Int) : Option (Int) := canopyref1_Find.l0 k l0 0 a1_0 a1_1

theorem canopyref1_Find.mono_l : ∀ k, (∀ y0 y1 y2 y3, LeO (canopyref1_Find.l0 k y0 y1 y2 y3) (canopyref1_Find.l0 (k + 1) y0 y1 y2 y3))
 | 0 => fun _ _ _ _ r h => by simp [canopyref1_Find.l0] at h
 | k + 1 => by
  have ih0 := canopyref1_Find.mono_l k
  ·intro y0 y1 y2 y3
   unfold canopyref1_Find.l0
   repeat' first
   | (with_reducible exact ih0 _ _ _ _)
   | (with_reducible exact LeO.refl _)
   | (with_reducible refine LeO.ite ?_ ?_)

theorem canopyref1_Find.mono : ∀ a0 a1 a2 k, LeO (canopyref1_Find.f k a0 a1 a2) (canopyref1_Find.f (k + 1) a0 a1 a2) := by
 intro a0 a1 a2 k
 have ih0 := canopyref1_Find.mono_l k
 unfold canopyref1_Find.f
 repeat' first
  | (with_reducible exact ih0 _ _ _ _)

def canopyref5_reader_find.f (k : Nat) (s0_0 : List (S56)) (s0_1 : ByteArray) (s0_2 : Int) (s0_3 : Int) (s0_4 : Int) (s0_5 : Int) (a1 : ByteArray) (a2 : Int) : Option (Int × ByteArray × Int × Int × Int × Int) := (canopyref1_Find.f k s0_0 a1 a2).bind fun t913 => (if t913 < 0 then ((canopyref5_reader_fail.f s0_0 s0_1 s0_2 s0_3 s0_4 s0_5 6 s0_2).bind fun bt914 => (some (0, bt914.2.2.2.2.1, bt914.2.2.2.2.2.1, bt914.2.2.2.2.2.2.1, bt914.2.2.2.2.2.2.2.1, bt914.2.2.2.2.2.2.2.2))) else (some (t913, s0_1, s0_2, s0_3, s0_4, s0_5)))

theorem canopyref5_reader_find.mono : ∀ a0 a1 a2 a3 a4 a5 a6 a7 k, LeO (canopyref5_reader_find.f k a0 a1 a2 a3 a4 a5 a6 a7) (canopyref5_reader_find.f (k + 1) a0 a1 a2 a3 a4 a5 a6 a7) := by
 intro a0 a1 a2 a3 a4 a5 a6 a7 k
 unfold canopyref5_reader_find.f
 repeat' first
  | (with_reducible exact canopyref1_Find.mono _ _ _ _)
  | (with_reducible exact LeO.refl _)
  | (with_reducible refine LeO.bind ?_ (fun _ => ?_))

def canopyref5_reader_in.f (s0_0 : List (S56)) (s0_1 : ByteArray) (s0_2 : Int) (s0_3 : Int) (s0_4 : Int) (s0_5 : Int) : Option (ByteArray × Int × Int × Int × Int) := if s0_5 > 40 then ((canopyref5_reader_fail.f s0_0 s0_1 s0_2 s0_3 s0_4 s0_5 3 s0_2).bind fun bt925 => (some (bt925.2.2.2.2.1, bt925.2.2.2.2.2.1, bt925.2.2.2.2.2.2.1, bt925.2.2.2.2.2.2.2.1, wrap64 (bt925.2.2.2.2.2.2.2.2 + 1)))) else (some (s0_1, s0_2, s0_3, s0_4, wrap64 (s0_5 + 1)))

mutual
def canopyref5_reader_nest.f : Nat → List (S56) → ByteArray → Int → Int → Int → Int → ByteArray → Int → Option (Int × Int × Int × (List (S28)) × ByteArray × Int × Int × Int × Int)
 | 0, _, _, _, _, _, _, _, _ => none
 | k + 1, s0_0, s0_1, s0_2, s0_3, s0_4, s0_5, a1, a2 => (canopyref5_reader_find.f k s0_0 s0_1 s0_2 s0_3 s0_4 s0_5 a1 1).bind fun bt937 => ((canopyref5_reader_in.f s0_0 bt937.2.1 bt937.2.2.1 bt937.2.2.2.1 bt937.2.2.2.2.1 bt937.2.2.2.2.2).bind fun bt944 => ((canopyref5_reader_or.f k s0_0 bt944.1 (wrap64 (bt944.2.1 + a2)) bt944.2.2.1 bt944.2.2.2.1 bt944.2.2.2.2).bind fun bt949 => ((canopyref5_reader_sign.f k s0_0 bt949.2.2.2.2.1 bt949.2.2.2.2.2.1 bt949.2.2.2.2.2.2.1 bt949.2.2.2.2.2.2.2.1 bt949.2.2.2.2.2.2.2.2).bind fun bt963 => (if bt963.1 = 93 then ((canopyref5_reader_find.f k s0_0 bt963.2.2.2.2.1 bt963.2.2.2.2.2.1 bt963.2.2.2.2.2.2.1 bt963.2.2.2.2.2.2.2.1 bt963.2.2.2.2.2.2.2.2 bt963.2.1 2).bind fun bt972 => (some (4, bt937.1, bt972.1, (([(⟨bt949.1, bt949.2.1, bt949.2.2.1, bt949.2.2.2.1⟩ : S28)] : List (S28))), bt972.2.1, wrap64 (bt972.2.2.1 + bt963.2.2.2.1), bt972.2.2.2.1, bt972.2.2.2.2.1, wrap64 (bt972.2.2.2.2.2 - 1)))) else ((canopyref5_reader_fail.f s0_0 bt963.2.2.2.2.1 bt963.2.2.2.2.2.1 bt963.2.2.2.2.2.2.1 bt963.2.2.2.2.2.2.2.1 bt963.2.2.2.2.2.2.2.2 1 bt963.2.2.2.2.2.1).bind fun bt978 => (some (bt978.1, bt978.2.1, bt978.2.2.1, bt978.2.2.2.1, bt978.2.2.2.2.1, bt978.2.2.2.2.2.1, bt978.2.2.2.2.2.2.1, bt978.2.2.2.2.2.2.2.1, bt978.2.2.2.2.2.2.2.2)))))))
def canopyref5_reader_atom.j0 : Nat → Int → ByteArray → Int → Bool → List (S56) → ByteArray → Int → Int → Int → Int → Option (Int × Int × Int × (List (S28)) × ByteArray × Int × Int × Int × Int)
 | 0, _, _, _, _, _, _, _, _, _, _ => none
 | k + 1, x3, x4, x6, x48, x1000, x1001, x1002, x1003, x1004, x1005 => if x48 = true then ((canopyref5_reader_find.f k x1000 x1001 x1002 x1003 x1004 x1005 x4 1).bind fun bt1012 => (some (3, bt1012.1, 0, ([] : List (S28)), bt1012.2.1, wrap64 (bt1012.2.2.1 + x6), bt1012.2.2.2.1, bt1012.2.2.2.2.1, bt1012.2.2.2.2.2))) else (if x3 = 40 then ((canopyref5_reader_in.f x1000 x1001 x1002 x1003 x1004 x1005).bind fun bt1018 => ((canopyref5_reader_or.f k x1000 bt1018.1 (wrap64 (bt1018.2.1 + x6)) bt1018.2.2.1 bt1018.2.2.2.1 bt1018.2.2.2.2).bind fun bt1023 => ((canopyref5_reader_sign.f k x1000 bt1023.2.2.2.2.1 bt1023.2.2.2.2.2.1 bt1023.2.2.2.2.2.2.1 bt1023.2.2.2.2.2.2.2.1 bt1023.2.2.2.2.2.2.2.2).bind fun bt1034 => (if bt1034.1 = 41 then (some (bt1023.1, bt1023.2.1, bt1023.2.2.1, bt1023.2.2.2.1, bt1034.2.2.2.2.1, wrap64 (bt1034.2.2.2.2.2.1 + 1), bt1034.2.2.2.2.2.2.1, bt1034.2.2.2.2.2.2.2.1, wrap64 (bt1034.2.2.2.2.2.2.2.2 - 1))) else ((canopyref5_reader_fail.f x1000 bt1034.2.2.2.2.1 bt1034.2.2.2.2.2.1 bt1034.2.2.2.2.2.2.1 bt1034.2.2.2.2.2.2.2.1 bt1034.2.2.2.2.2.2.2.2 1 bt1034.2.2.2.2.2.1).bind fun bt1043 => (some (bt1043.1, bt1043.2.1, bt1043.2.2.1, bt1043.2.2.2.1, bt1043.2.2.2.2.1, bt1043.2.2.2.2.2.1, bt1043.2.2.2.2.2.2.1, bt1043.2.2.2.2.2.2.2.1, bt1043.2.2.2.2.2.2.2.2))))))) else (if x3 = 60 then ((canopyref5_reader_nest.f k x1000 x1001 x1002 x1003 x1004 x1005 x4 x6).bind fun bt1054 => (some (bt1054.1, bt1054.2.1, bt1054.2.2.1, bt1054.2.2.2.1, bt1054.2.2.2.2.1, bt1054.2.2.2.2.2.1, bt1054.2.2.2.2.2.2.1, bt1054.2.2.2.2.2.2.2.1, bt1054.2.2.2.2.2.2.2.2))) else ((canopyref5_reader_fail.f x1000 x1001 x1002 x1003 x1004 x1005 1 x1002).bind fun bt1065 => (some (bt1065.1, bt1065.2.1, bt1065.2.2.1, bt1065.2.2.2.1, bt1065.2.2.2.2.1, bt1065.2.2.2.2.2.1, bt1065.2.2.2.2.2.2.1, bt1065.2.2.2.2.2.2.2.1, bt1065.2.2.2.2.2.2.2.2)))))
def canopyref5_reader_atom.f : Nat → List (S56) → ByteArray → Int → Int → Int → Int → Option (Int × Int × Int × (List (S28)) × ByteArray × Int × Int × Int × Int)
 | 0, _, _, _, _, _, _ => none
 | k + 1, s0_0, s0_1, s0_2, s0_3, s0_4, s0_5 => (canopyref5_reader_sign.f k s0_0 s0_1 s0_2 s0_3 s0_4 s0_5).bind fun bt990 => (if bt990.1 = 48 then (some (1, 0, 0, ([] : List (S28)), bt990.2.2.2.2.1, wrap64 (bt990.2.2.2.2.2.1 + bt990.2.2.2.1), bt990.2.2.2.2.2.2.1, bt990.2.2.2.2.2.2.2.1, bt990.2.2.2.2.2.2.2.2)) else (if bt990.1 = 49 then (some (2, 0, 0, ([] : List (S28)), bt990.2.2.2.2.1, wrap64 (bt990.2.2.2.2.2.1 + bt990.2.2.2.1), bt990.2.2.2.2.2.2.1, bt990.2.2.2.2.2.2.2.1, bt990.2.2.2.2.2.2.2.2)) else (if bt990.1 = 97 then ((canopyref5_reader_find.f k s0_0 bt990.2.2.2.2.1 bt990.2.2.2.2.2.1 bt990.2.2.2.2.2.2.1 bt990.2.2.2.2.2.2.2.1 bt990.2.2.2.2.2.2.2.2 bt990.2.1 3).bind fun bt1000 => (some (3, bt1000.1, 0, ([] : List (S28)), bt1000.2.1, wrap64 (bt1000.2.2.1 + bt990.2.2.2.1), bt1000.2.2.2.1, bt1000.2.2.2.2.1, bt1000.2.2.2.2.2))) else (if bt990.1 = 47 then ((canopyref5_reader_find.f k s0_0 bt990.2.2.2.2.1 bt990.2.2.2.2.2.1 bt990.2.2.2.2.2.2.1 bt990.2.2.2.2.2.2.2.1 bt990.2.2.2.2.2.2.2.2 bt990.2.1 2).bind fun bt1006 => (some (3, bt1006.1, 0, ([] : List (S28)), bt1006.2.1, wrap64 (bt1006.2.2.1 + bt990.2.2.2.1), bt1006.2.2.2.1, bt1006.2.2.2.2.1, bt1006.2.2.2.2.2))) else (if bt990.1 = 60 then (canopyref5_reader_atom.j0 k bt990.1 bt990.2.1 bt990.2.2.2.1 (bt990.2.2.1 == 62) s0_0 bt990.2.2.2.2.1 bt990.2.2.2.2.2.1 bt990.2.2.2.2.2.2.1 bt990.2.2.2.2.2.2.2.1 bt990.2.2.2.2.2.2.2.2) else (canopyref5_reader_atom.j0 k bt990.1 bt990.2.1 bt990.2.2.2.1 false s0_0 bt990.2.2.2.2.1 bt990.2.2.2.2.2.1 bt990.2.2.2.2.2.2.1 bt990.2.2.2.2.2.2.2.1 bt990.2.2.2.2.2.2.2.2))))))
def canopyref5_reader_cat.l0 : Nat → List (S28) → List (S56) → ByteArray → Int → Int → Int → Int → Option (Int × Int × Int × (List (S28)) × ByteArray × Int × Int × Int × Int)
 | 0, _, _, _, _, _, _, _ => none
 | k + 1, x3, x1000, x1001, x1002, x1003, x1004, x1005 => if x1003 = 0 then ((canopyref5_reader_atom.f k x1000 x1001 x1002 x1003 x1004 x1005).bind fun bt1078 => (canopyref5_reader_cat.l1 k x3 x1000 bt1078.2.2.2.2.1 bt1078.2.2.2.2.2.1 bt1078.2.2.2.2.2.2.1 bt1078.2.2.2.2.2.2.2.1 bt1078.2.2.2.2.2.2.2.2 bt1078.1 bt1078.2.1 bt1078.2.2.1 bt1078.2.2.2.1)) else (if (x3.length : Int) = 1 then (if 0 < (x3.length : Int) then (some ((rd_T28 x3 0).f0, (rd_T28 x3 0).f1, (rd_T28 x3 0).f2, (rd_T28 x3 0).f3, x1001, x1002, x1003, x1004, x1005)) else (none)) else (some (5, 0, 0, x3, x1001, x1002, x1003, x1004, x1005)))
def canopyref5_reader_cat.l1 : Nat → List (S28) → List (S56) → ByteArray → Int → Int → Int → Int → Int → Int → Int → List (S28) → Option (Int × Int × Int × (List (S28)) × ByteArray × Int × Int × Int × Int)
 | 0, _, _, _, _, _, _, _, _, _, _, _ => none
 | k + 1, x3, x1000, x1001, x1002, x1003, x1004, x1005, x1090000, x1090001, x1090002, x1090003 => if x1003 = 0 then ((canopyref5_reader_sign.f k x1000 x1001 x1002 x1003 x1004 x1005).bind fun bt1090 => (if bt1090.1 = 42 then (canopyref5_reader_cat.l1 k x3 x1000 bt1090.2.2.2.2.1 (wrap64 (bt1090.2.2.2.2.2.1 + 1)) bt1090.2.2.2.2.2.2.1 bt1090.2.2.2.2.2.2.2.1 bt1090.2.2.2.2.2.2.2.2 7 0 0 (([(⟨x1090000, x1090001, x1090002, x1090003⟩ : S28)] : List (S28)))) else (if x3.length < 2932031007402 then ((some (x3 ++ [(⟨x1090000, x1090001, x1090002, x1090003⟩ : S28)] : List (S28))).bind fun y1102 => ((canopyref5_reader_sign.f k x1000 bt1090.2.2.2.2.1 bt1090.2.2.2.2.2.1 bt1090.2.2.2.2.2.2.1 bt1090.2.2.2.2.2.2.2.1 bt1090.2.2.2.2.2.2.2.2).bind fun bt1105 => (if bt1105.1 = 0 then (if (y1102.length : Int) = 1 then (if 0 < (y1102.length : Int) then (some ((rd_T28 y1102 0).f0, (rd_T28 y1102 0).f1, (rd_T28 y1102 0).f2, (rd_T28 y1102 0).f3, bt1105.2.2.2.2.1, bt1105.2.2.2.2.2.1, bt1105.2.2.2.2.2.2.1, bt1105.2.2.2.2.2.2.2.1, bt1105.2.2.2.2.2.2.2.2)) else (none)) else (some (5, 0, 0, y1102, bt1105.2.2.2.2.1, bt1105.2.2.2.2.2.1, bt1105.2.2.2.2.2.2.1, bt1105.2.2.2.2.2.2.2.1, bt1105.2.2.2.2.2.2.2.2))) else (if bt1105.1 = 41 then (if (y1102.length : Int) = 1 then (if 0 < (y1102.length : Int) then (some ((rd_T28 y1102 0).f0, (rd_T28 y1102 0).f1, (rd_T28 y1102 0).f2, (rd_T28 y1102 0).f3, bt1105.2.2.2.2.1, bt1105.2.2.2.2.2.1, bt1105.2.2.2.2.2.2.1, bt1105.2.2.2.2.2.2.2.1, bt1105.2.2.2.2.2.2.2.2)) else (none)) else (some (5, 0, 0, y1102, bt1105.2.2.2.2.1, bt1105.2.2.2.2.2.1, bt1105.2.2.2.2.2.2.1, bt1105.2.2.2.2.2.2.2.1, bt1105.2.2.2.2.2.2.2.2))) else (if bt1105.1 = 93 then (if (y1102.length : Int) = 1 then (if 0 < (y1102.length : Int) then (some ((rd_T28 y1102 0).f0, (rd_T28 y1102 0).f1, (rd_T28 y1102 0).f2, (rd_T28 y1102 0).f3, bt1105.2.2.2.2.1, bt1105.2.2.2.2.2.1, bt1105.2.2.2.2.2.2.1, bt1105.2.2.2.2.2.2.2.1, bt1105.2.2.2.2.2.2.2.2)) else (none)) else (some (5, 0, 0, y1102, bt1105.2.2.2.2.1, bt1105.2.2.2.2.2.1, bt1105.2.2.2.2.2.2.1, bt1105.2.2.2.2.2.2.2.1, bt1105.2.2.2.2.2.2.2.2))) else (if bt1105.1 = 124 then (if (y1102.length : Int) = 1 then (if 0 < (y1102.length : Int) then (some ((rd_T28 y1102 0).f0, (rd_T28 y1102 0).f1, (rd_T28 y1102 0).f2, (rd_T28 y1102 0).f3, bt1105.2.2.2.2.1, bt1105.2.2.2.2.2.1, bt1105.2.2.2.2.2.2.1, bt1105.2.2.2.2.2.2.2.1, bt1105.2.2.2.2.2.2.2.2)) else (none)) else (some (5, 0, 0, y1102, bt1105.2.2.2.2.1, bt1105.2.2.2.2.2.1, bt1105.2.2.2.2.2.2.1, bt1105.2.2.2.2.2.2.2.1, bt1105.2.2.2.2.2.2.2.2))) else (canopyref5_reader_cat.l0 k y1102 x1000 bt1105.2.2.2.2.1 bt1105.2.2.2.2.2.1 bt1105.2.2.2.2.2.2.1 bt1105.2.2.2.2.2.2.2.1 bt1105.2.2.2.2.2.2.2.2))))))) else (none)))) else (if x3.length < 2932031007402 then ((some (x3 ++ [(⟨x1090000, x1090001, x1090002, x1090003⟩ : S28)] : List (S28))).bind fun y1118 => ((canopyref5_reader_sign.f k x1000 x1001 x1002 x1003 x1004 x1005).bind fun bt1121 => (if bt1121.1 = 0 then (if (y1118.length : Int) = 1 then (if 0 < (y1118.length : Int) then (some ((rd_T28 y1118 0).f0, (rd_T28 y1118 0).f1, (rd_T28 y1118 0).f2, (rd_T28 y1118 0).f3, bt1121.2.2.2.2.1, bt1121.2.2.2.2.2.1, bt1121.2.2.2.2.2.2.1, bt1121.2.2.2.2.2.2.2.1, bt1121.2.2.2.2.2.2.2.2)) else (none)) else (some (5, 0, 0, y1118, bt1121.2.2.2.2.1, bt1121.2.2.2.2.2.1, bt1121.2.2.2.2.2.2.1, bt1121.2.2.2.2.2.2.2.1, bt1121.2.2.2.2.2.2.2.2))) else (if bt1121.1 = 41 then (if (y1118.length : Int) = 1 then (if 0 < (y1118.length : Int) then (some ((rd_T28 y1118 0).f0, (rd_T28 y1118 0).f1, (rd_T28 y1118 0).f2, (rd_T28 y1118 0).f3, bt1121.2.2.2.2.1, bt1121.2.2.2.2.2.1, bt1121.2.2.2.2.2.2.1, bt1121.2.2.2.2.2.2.2.1, bt1121.2.2.2.2.2.2.2.2)) else (none)) else (some (5, 0, 0, y1118, bt1121.2.2.2.2.1, bt1121.2.2.2.2.2.1, bt1121.2.2.2.2.2.2.1, bt1121.2.2.2.2.2.2.2.1, bt1121.2.2.2.2.2.2.2.2))) else (if bt1121.1 = 93 then (if (y1118.length : Int) = 1 then (if 0 < (y1118.length : Int) then (some ((rd_T28 y1118 0).f0, (rd_T28 y1118 0).f1, (rd_T28 y1118 0).f2, (rd_T28 y1118 0).f3, bt1121.2.2.2.2.1, bt1121.2.2.2.2.2.1, bt1121.2.2.2.2.2.2.1, bt1121.2.2.2.2.2.2.2.1, bt1121.2.2.2.2.2.2.2.2)) else (none)) else (some (5, 0, 0, y1118, bt1121.2.2.2.2.1, bt1121.2.2.2.2.2.1, bt1121.2.2.2.2.2.2.1, bt1121.2.2.2.2.2.2.2.1, bt1121.2.2.2.2.2.2.2.2))) else (if bt1121.1 = 124 then (if (y1118.length : Int) = 1 then (if 0 < (y1118.length : Int) then (some ((rd_T28 y1118 0).f0, (rd_T28 y1118 0).f1, (rd_T28 y1118 0).f2, (rd_T28 y1118 0).f3, bt1121.2.2.2.2.1, bt1121.2.2.2.2.2.1, bt1121.2.2.2.2.2.2.1, bt1121.2.2.2.2.2.2.2.1, bt1121.2.2.2.2.2.2.2.2)) else (none)) else (some (5, 0, 0, y1118, bt1121.2.2.2.2.1, bt1121.2.2.2.2.2.1, bt1121.2.2.2.2.2.2.1, bt1121.2.2.2.2.2.2.2.1, bt1121.2.2.2.2.2.2.2.2))) else (canopyref5_reader_cat.l0 k y1118 x1000 bt1121.2.2.2.2.1 bt1121.2.2.2.2.2.1 bt1121.2.2.2.2.2.2.1 bt1121.2.2.2.2.2.2.2.1 bt1121.2.2.2.2.2.2.2.2))))))) else (none))
def canopyref5_reader_cat.f : Nat → List (S56) → ByteArray → Int → Int → Int → Int → Option (Int × Int × Int × (List (S28)) × ByteArray × Int × Int × Int × Int)
 | 0, _, _, _, _, _, _ => none
 | k + 1, s0_0, s0_1, s0_2, s0_3, s0_4, s0_5 => canopyref5_reader_cat.l0 k ([] : List (S28)) s0_0 s0_1 s0_2 s0_3 s0_4 s0_5
def canopyref5_reader_or.l0 : Nat → List (S28) → List (S56) → ByteArray → Int → Int → Int → Int → Option (Int × Int × Int × (List (S28)) × ByteArray × Int × Int × Int × Int)
 | 0, _, _, _, _, _, _, _ => none
 | k + 1, x3, x1000, x1001, x1002, x1003, x1004, x1005 => if x1003 = 0 then ((canopyref5_reader_cat.f k x1000 x1001 x1002 x1003 x1004 x1005).bind fun bt1136 => (if x3.length < 2932031007402 then ((some (x3 ++ [(⟨bt1136.1, bt1136.2.1, bt1136.2.2.1, bt1136.2.2.2.1⟩ : S28)] : List (S28))).bind fun y1147 => ((canopyref5_reader_sign.f k x1000 bt1136.2.2.2.2.1 bt1136.2.2.2.2.2.1 bt1136.2.2.2.2.2.2.1 bt1136.2.2.2.2.2.2.2.1 bt1136.2.2.2.2.2.2.2.2).bind fun bt1150 => (if bt1150.1 = 124 then (if bt1150.2.2.2.2.2.2.1 = 0 then (canopyref5_reader_or.l0 k y1147 x1000 bt1150.2.2.2.2.1 (wrap64 (bt1150.2.2.2.2.2.1 + 1)) bt1150.2.2.2.2.2.2.1 bt1150.2.2.2.2.2.2.2.1 bt1150.2.2.2.2.2.2.2.2) else (if (y1147.length : Int) = 1 then (if 0 < (y1147.length : Int) then (some ((rd_T28 y1147 0).f0, (rd_T28 y1147 0).f1, (rd_T28 y1147 0).f2, (rd_T28 y1147 0).f3, bt1150.2.2.2.2.1, bt1150.2.2.2.2.2.1, bt1150.2.2.2.2.2.2.1, bt1150.2.2.2.2.2.2.2.1, bt1150.2.2.2.2.2.2.2.2)) else (none)) else (some (6, 0, 0, y1147, bt1150.2.2.2.2.1, bt1150.2.2.2.2.2.1, bt1150.2.2.2.2.2.2.1, bt1150.2.2.2.2.2.2.2.1, bt1150.2.2.2.2.2.2.2.2)))) else (if (y1147.length : Int) = 1 then (if 0 < (y1147.length : Int) then (some ((rd_T28 y1147 0).f0, (rd_T28 y1147 0).f1, (rd_T28 y1147 0).f2, (rd_T28 y1147 0).f3, bt1150.2.2.2.2.1, bt1150.2.2.2.2.2.1, bt1150.2.2.2.2.2.2.1, bt1150.2.2.2.2.2.2.2.1, bt1150.2.2.2.2.2.2.2.2)) else (none)) else (some (6, 0, 0, y1147, bt1150.2.2.2.2.1, bt1150.2.2.2.2.2.1, bt1150.2.2.2.2.2.2.1, bt1150.2.2.2.2.2.2.2.1, bt1150.2.2.2.2.2.2.2.2)))))) else (none))) else (if (x3.length : Int) = 1 then (if 0 < (x3.length : Int) then (some ((rd_T28 x3 0).f0, (rd_T28 x3 0).f1, (rd_T28 x3 0).f2, (rd_T28 x3 0).f3, x1001, x1002, x1003, x1004, x1005)) else (none)) else (some (6, 0, 0, x3, x1001, x1002, x1003, x1004, x1005)))
def canopyref5_reader_or.f : Nat → List (S56) → ByteArray → Int → Int → Int → Int → Option (Int × Int × Int × (List (S28)) × ByteArray × Int × Int × Int × Int)
 | 0, _, _, _, _, _, _ => none
 | k + 1, s0_0, s0_1, s0_2, s0_3, s0_4, s0_5 => canopyref5_reader_or.l0 k ([] : List (S28)) s0_0 s0_1 s0_2 s0_3 s0_4 s0_5
end

theorem canopyref5_reader_or.mono_g : ∀ k, (∀ y0 y1 y2 y3 y4 y5 y6 y7, LeO (canopyref5_reader_nest.f k y0 y1 y2 y3 y4 y5 y6 y7) (canopyref5_reader_nest.f (k + 1) y0 y1 y2 y3 y4 y5 y6 y7)) ∧ (∀ y0 y1 y2 y3 y4 y5, LeO (canopyref5_reader_atom.f k y0 y1 y2 y3 y4 y5) (canopyref5_reader_atom.f (k + 1) y0 y1 y2 y3 y4 y5)) ∧ (∀ y0 y1 y2 y3 y4 y5 y6 y7 y8 y9, LeO (canopyref5_reader_atom.j0 k y0 y1 y2 y3 y4 y5 y6 y7 y8 y9) (canopyref5_reader_atom.j0 (k + 1) y0 y1 y2 y3 y4 y5 y6 y7 y8 y9)) ∧ (∀ y0 y1 y2 y3 y4 y5, LeO (canopyref5_reader_cat.f k y0 y1 y2 y3 y4 y5) (canopyref5_reader_cat.f (k + 1) y0 y1 y2 y3 y4 y5)) ∧ (∀ y0 y1 y2 y3 y4 y5 y6, LeO (canopyref5_reader_cat.l0 k y0 y1 y2 y3 y4 y5 y6) (canopyref5_reader_cat.l0 (k + 1) y0 y1 y2 y3 y4 y5 y6)) ∧ (∀ y0 y1 y2 y3 y4 y5 y6 y7 y8 y9 y10, LeO (canopyref5_reader_cat.l1 k y0 y1 y2 y3 y4 y5 y6 y7 y8 y9 y10) (canopyref5_reader_cat.l1 (k + 1) y0 y1 y2 y3 y4 y5 y6 y7 y8 y9 y10)) ∧ (∀ y0 y1 y2 y3 y4 y5, LeO (canopyref5_reader_or.f k y0 y1 y2 y3 y4 y5) (canopyref5_reader_or.f (k + 1) y0 y1 y2 y3 y4 y5)) ∧ (∀ y0 y1 y2 y3 y4 y5 y6, LeO (canopyref5_reader_or.l0 k y0 y1 y2 y3 y4 y5 y6) (canopyref5_reader_or.l0 (k + 1) y0 y1 y2 y3 y4 y5 y6))
 | 0 => ⟨fun _ _ _ _ _ _ _ _ r h => by simp [canopyref5_reader_nest.f] at h, fun _ _ _ _ _ _ r h => by simp [canopyref5_reader_atom.f] at h, fun _ _ _ _ _ _ _ _ _ _ r h => by simp [canopyref5_reader_atom.j0] at h, fun _ _ _ _ _ _ r h => by simp [canopyref5_reader_cat.f] at h, fun _ _ _ _ _ _ _ r h => by simp [canopyref5_reader_cat.l0] at h, fun _ _ _ _ _ _ _ _ _ _ _ r h => by simp [canopyref5_reader_cat.l1] at h, fun _ _ _ _ _ _ r h => by simp [canopyref5_reader_or.f] at h, fun _ _ _ _ _ _ _ r h => by simp [canopyref5_reader_or.l0] at h⟩
 | k + 1 => by
  obtain ⟨ih0, ih1, ih2, ih3, ih4, ih5, ih6, ih7⟩ := canopyref5_reader_or.mono_g k
  refine ⟨?_, ?_, ?_, ?_, ?_, ?_, ?_, ?_⟩
  ·intro y0 y1 y2 y3 y4 y5 y6 y7
   unfold canopyref5_reader_nest.f
   repeat' first
   | (with_reducible exact ih6 _ _ _ _ _ _)
   | (with_reducible exact canopyref5_reader_find.mono _ _ _ _ _ _ _ _ _)
   | (with_reducible exact canopyref5_reader_sign.mono _ _ _ _ _ _ _)
   | (with_reducible exact LeO.refl _)
   | (with_reducible refine LeO.ite ?_ ?_)
   | (with_reducible refine LeO.bind ?_ (fun _ => ?_))
  ·intro y0 y1 y2 y3 y4 y5
   unfold canopyref5_reader_atom.f
   repeat' first
   | (with_reducible exact ih2 _ _ _ _ _ _ _ _ _ _)
   | (with_reducible exact canopyref5_reader_find.mono _ _ _ _ _ _ _ _ _)
   | (with_reducible exact canopyref5_reader_sign.mono _ _ _ _ _ _ _)
   | (with_reducible exact LeO.refl _)
   | (with_reducible refine LeO.ite ?_ ?_)
   | (with_reducible refine LeO.bind ?_ (fun _ => ?_))
  ·intro y0 y1 y2 y3 y4 y5 y6 y7 y8 y9
   unfold canopyref5_reader_atom.j0
   repeat' first
   | (with_reducible exact ih0 _ _ _ _ _ _ _ _)
   | (with_reducible exact ih6 _ _ _ _ _ _)
   | (with_reducible exact canopyref5_reader_find.mono _ _ _ _ _ _ _ _ _)
   | (with_reducible exact canopyref5_reader_sign.mono _ _ _ _ _ _ _)
   | (with_reducible exact LeO.refl _)
   | (with_reducible refine LeO.ite ?_ ?_)
   | (with_reducible refine LeO.bind ?_ (fun _ => ?_))
  ·intro y0 y1 y2 y3 y4 y5
   unfold canopyref5_reader_cat.f
   repeat' first
   | (with_reducible exact ih4 _ _ _ _ _ _ _)
  ·intro y0 y1 y2 y3 y4 y5 y6
   unfold canopyref5_reader_cat.l0
   repeat' first
   | (with_reducible exact ih1 _ _ _ _ _ _)
   | (with_reducible exact ih5 _ _ _ _ _ _ _ _ _ _ _)
   | (with_reducible exact LeO.refl _)
   | (with_reducible refine LeO.ite ?_ ?_)
   | (with_reducible refine LeO.bind ?_ (fun _ => ?_))
  ·intro y0 y1 y2 y3 y4 y5 y6 y7 y8 y9 y10
   unfold canopyref5_reader_cat.l1
   repeat' first
   | (with_reducible exact ih4 _ _ _ _ _ _ _)
   | (with_reducible exact ih5 _ _ _ _ _ _ _ _ _ _ _)
   | (with_reducible exact canopyref5_reader_sign.mono _ _ _ _ _ _ _)
   | (with_reducible exact LeO.refl _)
   | (with_reducible refine LeO.ite ?_ ?_)
   | (with_reducible refine LeO.bind ?_ (fun _ => ?_))
  ·intro y0 y1 y2 y3 y4 y5
   unfold canopyref5_reader_or.f
   repeat' first
   | (with_reducible exact ih7 _ _ _ _ _ _ _)
  ·intro y0 y1 y2 y3 y4 y5 y6
   unfold canopyref5_reader_or.l0
   repeat' first
   | (with_reducible exact ih3 _ _ _ _ _ _)
   | (with_reducible exact ih7 _ _ _ _ _ _ _)
   | (with_reducible exact canopyref5_reader_sign.mono _ _ _ _ _ _ _)
   | (with_reducible exact LeO.refl _)
   | (with_reducible refine LeO.ite ?_ ?_)
   | (with_reducible refine LeO.bind ?_ (fun _ => ?_))

end Go.Proofs.Ytodbnnfiadcbaaa.P
