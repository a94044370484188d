import Derived.Test.YtodbnnfiadcbaaaVcXb
import Derived.Test.YtodbnnfiadcbaaaVcP5
set_option linter.unusedVariables false
set_option linter.unusedSimpArgs false
set_option linter.unusedSectionVars false
namespace Go.V.S
open Go.Proofs Go.RowKit Go.Proofs.Ytodbnnfiadcbaaa.P
set_option maxRecDepth 10000
abbrev bR (f : Nat → Bool) (n : Nat) : List (List T) := (List.range (n + 1)).map fun j => [.v (.bool (f j))]
abbrev tabN (M : Nat → Nat → Bool) (n : Nat) : List (List T × List (List T)) := (List.range (n + 1)).map fun i => ([], bR (M i) n)
abbrev tabR (M : Nat → Nat → Bool) (n : Nat) : List (List T) := (List.range (n + 1)).map fun i => [.sl (bR (M i) n)]
abbrev tabT (M : Nat → Nat → Bool) (n : Nat) : T := .sl (tabR M n)
def up (M : Nat → Nat → Bool) (i j : Nat) (b : Bool) : Nat → Nat → Bool := fun a c => if a = i ∧ c = j then b else M a c
theorem map_range_get {α : Type} (f : Nat → α) {n i : Nat} (h : i ≤ n) : ((List.range (n + 1)).map f)[i]? = some (f i) := by
 rw [List.getElem?_map, List.getElem?_range (by omega)]; rfl
theorem bR_len (f : Nat → Bool) (n : Nat) : (bR f n).length = n + 1 := by rw [List.length_map, List.length_range]
theorem map_range_set {α : Type} (f g : Nat → α) {n i : Nat} (h : i ≤ n) (hg : ∀ j, j ≠ i → g j = f j) : ((List.range (n + 1)).map f).set i (g i) = (List.range (n + 1)).map g := by
 refine List.ext_getElem? fun j => ?_
 by_cases hj : j = i
 ·subst hj
  rw [List.getElem?_set_self (by rw [List.length_map, List.length_range]; omega), map_range_get g h]
 ·rw [List.getElem?_set_ne (Ne.symm hj), List.getElem?_map, List.getElem?_map]
  cases hq : (List.range (n + 1))[j]? with
  | none => rfl
  | some x =>
   have : x = j := by
    have := List.getElem?_eq_some_iff.1 hq
    obtain ⟨h1, h2⟩ := this
    rw [List.getElem_range] at h2; exact h2.symm
   subst this
   simp only [Option.map_some, hg x hj]
theorem bR_set (f : Nat → Bool) {n j : Nat} (b : Bool) (h : j ≤ n) : (bR f n).set j [.v (.bool b)] = bR (fun c => if c = j then b else f c) n := by
 have := map_range_set (fun j => [T.v (.bool (f j))]) (fun c => [T.v (.bool (if c = j then b else f c))]) h (fun c hc => by simp only [if_neg hc])
 simp only [if_true] at this
 exact this
theorem tabN_set (M : Nat → Nat → Bool) {n i j : Nat} (b : Bool) (hi : i ≤ n) (hj : j ≤ n) : (tabN M n).set i ([], (bR (M i) n).set j [.v (.bool b)]) = tabN (up M i j b) n := by
 rw [bR_set _ _ hj]
 have := map_range_set (fun i => (([], bR (M i) n) : List T × List (List T))) (fun a => ([], bR (up M i j b a) n)) hi (fun a ha => by
  have : up M i j b a = M a := by funext c; simp only [up, ha, false_and, if_false]
  simp only [this])
 have e : up M i j b i = fun c => if c = j then b else M i c := by funext c; simp only [up, true_and]
 simp only [e] at this
 exact this
theorem tab_nestT (M : Nat → Nat → Bool) (n : Nat) : (tabN M n).map nestT = tabR M n := by rw [List.map_map]; rfl
theorem iz (i : Nat) : 0 + ((i : Nat) : Int).toNat = i := by rw [Int.toNat_natCast, Nat.zero_add]
theorem vN {M : Nat → Nat → Bool} {n i : Nat} {K : List T → List (List T) → Prop} (hi : i ≤ n) (hK : K [] (bR (M i) n)) :
 ∃ pre inner, (tabN M n)[0 + ((i : Nat) : Int).toNat]? = some (pre, inner) ∧ 0 < inner.length ∧ K pre inner := by
 rw [iz]
 exact ⟨[], bR (M i) n, map_range_get _ hi, by rw [bR_len]; omega, hK⟩
theorem vN2 {M : Nat → Nat → Bool} {n i j : Nat} {K : List T → List (List T) → List T → Prop} (hi : i ≤ n) (hj : j ≤ n) (hK : K [] (bR (M i) n) [.v (.bool (M i j))]) :
 ∃ pre inner el, (tabN M n)[0 + ((i : Nat) : Int).toNat]? = some (pre, inner) ∧ inner[0 + ((j : Nat) : Int).toNat]? = some el ∧ K pre inner el := by
 rw [iz, iz]
 exact ⟨[], bR (M i) n, [.v (.bool (M i j))], map_range_get _ hi, map_range_get _ hj, hK⟩
theorem vNs {σ : AS} {M : Nat → Nat → Bool} {n i j k : Nat} {b : Bool} {K : AS → Prop} (hi : i ≤ n) (hj : j ≤ n) (hK : (σ.upd k (.nest 1 1 (tabN (up M i j b) n))).frc K) :
 ∃ pre inner el, (tabN M n)[0 + ((i : Nat) : Int).toNat]? = some (pre, inner) ∧ inner[0 + ((j : Nat) : Int).toNat]? = some el ∧ (σ.upd k (.nest 1 1 ((tabN M n).set (0 + ((i : Nat) : Int).toNat) (pre, inner.set (0 + ((j : Nat) : Int).toNat) (setAt el 0 [.v (.bool b)]))))).frc K := by
 rw [iz, iz]
 refine ⟨[], bR (M i) n, [.v (.bool (M i j))], map_range_get _ hi, map_range_get _ hj, ?_⟩
 show (σ.upd k (.nest 1 1 ((tabN M n).set i ([], (bR (M i) n).set j [.v (.bool b)])))).frc K
 rw [tabN_set M b hi hj]; exact hK
abbrev fR (n : Nat) : List (List T) := List.replicate (n + 1) [.v (.bool false)]
abbrev pt (i n : Nat) : List (List T × List (List T)) := (List.range (n + 1)).map fun a => ([], if a < i then fR n else [])
theorem vLay {σ : AS} {n m x i k j : Nat} {K : AS → Prop} (hi : i ≤ n) (hx : x = i) (hm : m = n + 1) (hK : (σ.lay k j (.nest 1 1 (pt (i + 1) n))).frc K) :
 ∃ pre inner, (pt i n)[x]? = some (pre, inner) ∧ m = (fR n).length ∧ 0 < m ∧ (σ.lay k j (.nest 1 1 ((pt i n).set x (pre, fR n)))).frc K := by
 subst hx; subst hm
 refine ⟨[], _, map_range_get _ hi, by rw [List.length_replicate], Nat.succ_pos _, ?_⟩
 have := map_range_set (fun a => (([], if a < x then fR n else []) : List T × List (List T))) (fun a => ([], if a < x + 1 then fR n else [])) hi (fun a ha => by
  by_cases h : a < x
  ·rw [if_pos h, if_pos (by omega)]
  ·rw [if_neg h, if_neg (by omega)])
 simp only [Nat.lt_succ_self, if_true] at this
 rw [this]; exact hK
theorem pt0 (n : Nat) : (List.replicate (n + 1) [T.sl []]).map (fun _ => (([], []) : List T × List (List T))) = pt 0 n := by
 refine List.ext_getElem (by simp) fun i h1 h2 => ?_
 simp
theorem ptn (n : Nat) : pt (n + 1) n = tabN (fun _ _ => false) n := by
 refine List.map_congr_left fun i hi => ?_
 rw [if_pos (List.mem_range.1 hi)]
 refine congrArg (Prod.mk []) (List.ext_getElem (by simp) fun i h1 h2 => ?_)
 simp
theorem vTe {M : Nat → Nat → Bool} {n i z : Nat} {K : List T → Prop} (hi : i ≤ n) (hz : z = 1) (hK : K [.sl (bR (M i) n)]) :
 ∃ el, (tabR M n)[((i : Nat) : Int).toNat]? = some el ∧ el.length = z ∧ K el := by
 subst hz
 exact ⟨_, by rw [Int.toNat_natCast]; exact map_range_get _ hi, rfl, hK⟩
theorem vTb {f : Nat → Bool} {n j z : Nat} {K : List T → Prop} (hj : j ≤ n) (hz : z = 1) (hK : K [.v (.bool (f j))]) :
 ∃ el, (bR f n)[((j : Nat) : Int).toNat]? = some el ∧ el.length = z ∧ K el := by
 subst hz
 exact ⟨_, by rw [Int.toNat_natCast]; exact map_range_get _ hj, rfl, hK⟩
theorem wrapN (i : Nat) (h : i ≤ 2000000) : IntKind.i64.wrap ((i : Int) + 1) = ((i + 1 : Nat) : Int) := by rw [wrap64_eq, wrap64]; omega
theorem tab_len (M : Nat → Nat → Bool) (n : Nat) : (tabR M n).length = n + 1 := by rw [List.length_map, List.length_range]
def Beh (A B : Nat → Nat → Bool) (n : Nat) (lex : Nat → Nat → Nat → Prop) (M : Nat → Nat → Bool) : Prop := ∀ i j, i ≤ n → j ≤ n → (M i j = true ↔ ∃ k, i ≤ k ∧ k ≤ j ∧ A i k = true ∧ B k j = true ∧ lex i k j)
theorem Beh.iff {A B M : Nat → Nat → Bool} {n : Nat} {p q : Nat → Nat → Nat → Prop} (h : Beh A B n p M) (hq : ∀ i k j, i ≤ k → k ≤ j → j ≤ n → A i k = true → (p i k j ↔ q i k j)) : Beh A B n q M := fun i j hi hj => by
 rw [h i j hi hj]
 constructor
 ·rintro ⟨k, h1, h2, h3, h4, h5⟩; exact ⟨k, h1, h2, h3, h4, (hq i k j h1 h2 hj h3).1 h5⟩
 ·rintro ⟨k, h1, h2, h3, h4, h5⟩; exact ⟨k, h1, h2, h3, h4, (hq i k j h1 h2 hj h3).2 h5⟩
theorem Beh.step {A B M : Nat → Nat → Bool} {n i k j : Nat} {p q : Nat → Nat → Nat → Prop} {b : Bool} (h : Beh A B n p M) (h1 : i ≤ k) (h2 : k ≤ j) (ha : A i k = true) (hb : b = (M i j || B k j))
 (hq : ∀ i' k' j', q i' k' j' ↔ p i' k' j' ∨ (i' = i ∧ k' = k ∧ j' = j)) : Beh A B n q (up M i j b) := fun i' j' hi hj => by
 unfold up
 by_cases e : i' = i ∧ j' = j
 ·obtain ⟨rfl, rfl⟩ := e
  rw [if_pos ⟨rfl, rfl⟩, hb, Bool.or_eq_true, h i' j' hi hj]
  constructor
  ·rintro (⟨k', g1, g2, g3, g4, g5⟩ | g)
   ·exact ⟨k', g1, g2, g3, g4, (hq _ _ _).2 (.inl g5)⟩
   ·exact ⟨k, h1, h2, ha, g, (hq _ _ _).2 (.inr ⟨rfl, rfl, rfl⟩)⟩
  ·rintro ⟨k', g1, g2, g3, g4, g5⟩
   rcases (hq _ _ _).1 g5 with g5 | ⟨_, rfl, _⟩
   ·exact .inl ⟨k', g1, g2, g3, g4, g5⟩
   ·exact .inr g4
 ·rw [if_neg e, h i' j' hi hj]
  constructor
  ·rintro ⟨k', g1, g2, g3, g4, g5⟩; exact ⟨k', g1, g2, g3, g4, (hq _ _ _).2 (.inl g5)⟩
  ·rintro ⟨k', g1, g2, g3, g4, g5⟩
   rcases (hq _ _ _).1 g5 with g5 | ⟨h1, _, h2⟩
   ·exact ⟨k', g1, g2, g3, g4, g5⟩
   ·exact absurd ⟨h1, h2⟩ e
abbrev lexJ (i k j : Nat) : Nat → Nat → Nat → Prop := fun i' k' j' => i' < i ∨ (i' = i ∧ (k' < k ∨ (k' = k ∧ j' < j)))
end Go.V.S
