/- The plain functions of words, as lists: what a place, a row, a text, symbols are. -/
import Derived.Test.YtiibfkjfanglbaaPx2
import Derived.Test.YtiibfkjfanglbaaPx3
import Derived.Test.YtiibfkjfanglbaaPx18
import Derived.Test.YtiibfkjfanglbaaPx4
import Derived.Test.YtiibfkjfanglbaaPx19
import Derived.Test.YtiibfkjfanglbaaPx21
import Derived.Test.YtiibfkjfanglbaaPx6
import Derived.Test.YtiibfkjfanglbaaPx24
import Derived.Test.YtiibfkjfanglbaaPx10
import Derived.Test.YtiibfkjfanglbaaPx26
import Derived.Test.YtiibfkjfanglbaaHandWords
namespace Go.Proofs.YtiibfkjfanglbaaL
open Go.RowKit Go.Proofs.Ytiibfkjfanglbaa.P Go.Proofs.YtiibfkjfanglbaaW.PrintWords Go.Proofs.YtiibfkjfanglbaaW.PrintLast Go.Proofs.YtiibfkjfanglbaaW.PrintMore

theorem ev_all {α : Type} {g : Nat → Option α} {r : α} (h : ∀ k, g k = some r) : Ev g r := ⟨0, fun k _ => h k⟩
theorem wrap_id {i : Int} (h : -9223372036854775808 ≤ i) (h' : i ≤ 9223372036854775807) : wrap64 i = i := by unfold wrap64; omega
theorem wrap_succ (i : Nat) (h : i ≤ 9223372036854775000) : wrap64 ((i : Int) + 1) = ((i + 1 : Nat) : Int) := by unfold wrap64; omega

theorem within_eq (a n : Int) (h0 : 0 < n) (h1 : n ≤ 4611686018427387904) : canopylaw1_within.f a n = some (a % n) := by
  unfold canopylaw1_within.f
  rw [if_neg (by omega)]
  have e := Int.tmod_eq_emod (a := a) (b := n)
  have h2 := Int.emod_nonneg a (show n ≠ 0 by omega)
  have h3 := Int.emod_lt_of_pos a h0
  by_cases h : 0 ≤ a ∨ n ∣ a
  · rw [if_pos h] at e
    rw [if_neg (by omega), e]
    simp
  · rw [if_neg h] at e
    have hn : a % n ≠ 0 := fun hz => h (.inr (Int.dvd_of_emod_eq_zero hz))
    have h4 : (n.natAbs : Int) = n := by omega
    rw [if_pos (by omega), e, h4, wrap_id (by omega) (by omega)]
    congr 1
    omega

theorem rd_nat (xs : List Int) (i : Nat) : rd xs (i : Int) = xs.getD i 0 := by simp [rd]
theorem rdT_nat (xs : List S40) (i : Nat) : rd_T40 xs (i : Int) = xs.getD i z40 := by simp [rd_T40]
theorem rd_get {xs : List Int} {i : Nat} (h : i < xs.length) : rd xs (i : Int) = xs[i] := by simp [rd, h]
theorem rdT_get {xs : List S40} {i : Nat} (h : i < xs.length) : rd_T40 xs (i : Int) = xs[i] := by simp [rd_T40, h]

/-! rows of whole numbers, told apart -/
theorem ints_l0 (a b : List Int) (hl : a.length = b.length) (hm : a.length ≤ 9223372036854770000) : ∀ (d i : Nat), i + d = a.length → Ev (fun k => canopyref1_Ints.l0 k a b (i : Int)) (decide (a.drop i = b.drop i)) := by
  intro d
  induction d with
  | zero =>
    intro i hi
    refine Ev.step (fun k => rfl) ?_
    simp only [canopyref1_Ints.l0, if_neg (show ¬ ((i : Int) < (a.length : Int)) by omega)]
    rw [List.drop_eq_nil_of_le (by omega), List.drop_eq_nil_of_le (by omega)]
    exact ev_all fun _ => rfl
  | succ d ih =>
    intro i hi
    refine Ev.step (fun k => rfl) ?_
    simp only [canopyref1_Ints.l0, if_pos (show ((i : Int) < (a.length : Int)) by omega), if_pos (show (0 : Int) ≤ (i : Int) by omega), if_pos (show ((i : Int) < (b.length : Int)) by omega)]
    rw [rd_get (show i < a.length by omega), rd_get (show i < b.length by omega), List.drop_eq_getElem_cons (show i < a.length by omega), List.drop_eq_getElem_cons (show i < b.length by omega)]
    by_cases h : a[i] = b[i]
    · simp only [if_pos h, wrap_succ i (by omega)]
      rw [show decide (a[i] :: a.drop (i + 1) = b[i] :: b.drop (i + 1)) = decide (a.drop (i + 1) = b.drop (i + 1)) from decide_eq_decide.2 (by rw [h]; exact List.cons_inj_right _)]
      exact ih (i + 1) (by omega)
    · simp only [if_neg h]
      rw [show decide (a[i] :: a.drop (i + 1) = b[i] :: b.drop (i + 1)) = false from decide_eq_false (fun e => h (List.cons.inj e).1)]
      exact ev_all fun _ => rfl
theorem ints_ev (a b : List Int) (hm : a.length ≤ 9223372036854770000) : Ev (fun k => canopyref1_Ints.f k a b) (decide (a = b)) := by
  unfold canopyref1_Ints.f
  by_cases h : a.length = b.length
  · simp only [if_pos (show (a.length : Int) = (b.length : Int) by omega)]
    exact ints_l0 a b h hm a.length 0 (by omega)
  · simp only [if_neg (show ¬ (a.length : Int) = (b.length : Int) by omega)]
    exact ev_all fun _ => by
      simp only [Option.some.injEq]
      rw [eq_comm]
      simp
      exact fun e => h (by rw [e])

/-! a word, of numbers -/
def wordOf (l : List S40) (ns : List Int) (m : Nat) : List Int := (ns.take m).map (· % (l.length : Int))
theorem word_l0 (l : List S40) (hl : 0 < l.length) (hl2 : l.length ≤ 1000) (ns : List Int) (m : Nat) (hm : m ≤ 1000) : ∀ (d i : Nat) (acc : List Int), i + d = min ns.length m → acc.length = i →
    Ev (fun k => canopylaw1_Word.l0 k l ns (m : Int) acc (i : Int)) (acc ++ ((ns.take m).drop i).map (· % (l.length : Int))) := by
  intro d
  induction d with
  | zero =>
    intro i acc hi ha
    refine Ev.step (f := fun k => canopylaw1_Word.l0 (k + 1) l ns (m : Int) acc (i : Int)) (fun k => rfl) ?_
    simp only [canopylaw1_Word.l0]
    rw [List.drop_eq_nil_of_le (by rw [List.length_take]; omega), List.map_nil, List.append_nil]
    by_cases h : (i : Int) < (ns.length : Int)
    · simp only [if_pos h, if_neg (show ¬ ((i : Int) < (m : Int)) by omega)]
      exact ev_all fun _ => rfl
    · simp only [if_neg h]
      exact ev_all fun _ => rfl
  | succ d ih =>
    intro i acc hi ha
    refine Ev.step (fun k => rfl) ?_
    simp only [canopylaw1_Word.l0, if_pos (show ((i : Int) < (ns.length : Int)) by omega), if_pos (show (0 : Int) ≤ (i : Int) by omega), if_pos (show ((i : Int) < (m : Int)) by omega), within_eq _ _ (show (0 : Int) < (l.length : Int) by omega) (by omega), Option.bind_some, if_pos (show acc.length < 17592186044416 by omega), wrap_succ i (by omega)]
    have := ih (i + 1) (acc ++ [rd ns i % (l.length : Int)]) (by omega) (by simp; omega)
    rw [List.append_assoc] at this
    rw [List.drop_eq_getElem_cons (show i < (ns.take m).length by rw [List.length_take]; omega), List.map_cons, List.getElem_take, ← rd_get (xs := ns) (show i < ns.length by omega)]
    exact this
theorem word_ev (l : List S40) (hl : 0 < l.length) (hl2 : l.length ≤ 1000) (ns : List Int) (m : Nat) (hm : m ≤ 1000) : Ev (fun k => canopylaw1_Word.f k l ns (m : Int)) (wordOf l ns m) := by
  unfold canopylaw1_Word.f wordOf
  exact word_l0 l hl hl2 ns m hm (min ns.length m) 0 [] (by omega) rfl
theorem wordOf_len (l : List S40) (ns : List Int) (m : Nat) : (wordOf l ns m).length ≤ m := by unfold wordOf; rw [List.length_map, List.length_take]; omega
/-- all of it are places of symbols -/
def Fit (l : List S40) (w : List Int) : Prop := ∀ x ∈ w, 0 ≤ x ∧ x < (l.length : Int)
theorem wordOf_fit (l : List S40) (hl : 0 < l.length) (ns : List Int) (m : Nat) : Fit l (wordOf l ns m) := by
  intro x hx
  obtain ⟨y, _, rfl⟩ := List.mem_map.1 hx
  exact ⟨Int.emod_nonneg y (by omega), Int.emod_lt_of_pos y (by omega)⟩

/-! symbols that may be -/
def nameB (s : ByteArray) : Bool := decide (1 ≤ s.size) && decide (s.size ≤ 8) && s.data.toList.all (fun b => decide (97 ≤ b.toNat) && decide (b.toNat ≤ 122))
def kindB (k : Int) : Bool := k == 1 || k == 2 || k == 3
def key (x : S40) : List UInt8 × Int := (x.f0.data.toList, x.f1)
def distinct : List (List UInt8 × Int) → Bool
  | [] => true
  | x :: xs => !(xs.contains x) && distinct xs
def goodB (l : List S40) : Bool := decide (0 < l.length) && decide (l.length ≤ 20) && l.all (fun x => nameB x.f0 && kindB x.f1) && distinct (l.map key)
def sy (c : UInt8) (k : Int) : S40 := ⟨⟨#[c]⟩, k⟩
def seven : List S40 := [sy 97 1, sy 97 2, sy 98 3, sy 99 1, sy 99 2, sy 100 3, sy 120 2]
def symsAll : List (List S40) := [seven.take 3, seven.take 4, seven.take 5, seven.take 6, seven.take 7, [sy 98 3, sy 97 2, sy 97 1], [sy 97 1], [sy 97 2], [sy 98 3], [sy 99 1], [sy 99 2], [sy 100 3], [sy 120 2]]
theorem symsAll_good : symsAll.all goodB = true := by decide +kernel
theorem cut_of (a : Int) (h0 : 0 ≤ a) (h1 : a < 5) : (if 0 ≤ (wrap64 (3 + a)) then (if (wrap64 (3 + a)) ≤ (seven.length : Int) then (some (seven.take ((wrap64 (3 + a)) : Int).toNat)) else (none)) else (none)) = some (seven.take (3 + a).toNat) := by
  have e : wrap64 (3 + a) = 3 + a := wrap_id (by omega) (by omega)
  rw [e, if_pos (by omega), if_pos (show (3 + a : Int) ≤ (seven.length : Int) by simp [seven]; omega)]
theorem cut_mem (a : Int) (h0 : 0 ≤ a) (h1 : a < 5) : seven.take (3 + a).toNat ∈ symsAll := by
  have : a = 0 ∨ a = 1 ∨ a = 2 ∨ a = 3 ∨ a = 4 := by omega
  rcases this with rfl | rfl | rfl | rfl | rfl <;> simp [symsAll]
theorem syms_some (n : Int) (ns : List Int) : ∃ l, canopylaw1_Syms.f n ns = some l ∧ l ∈ symsAll := by
  unfold canopylaw1_Syms.f
  simp only [within_eq _ _ (show (0 : Int) < 5 by omega) (by omega), within_eq _ _ (show (0 : Int) < 7 by omega) (by omega), within_eq _ _ (show (0 : Int) < 11 by omega) (by omega), Option.bind_some]
  have a0 := Int.emod_nonneg n (show (5 : Int) ≠ 0 by omega)
  have a1 := Int.emod_lt_of_pos n (show (0 : Int) < 5 by omega)
  generalize n % 5 = a at *
  by_cases h7 : n % 7 = 1
  · rw [if_pos h7]
    exact ⟨_, rfl, by simp [symsAll, sy, rd_T40]⟩
  · rw [if_neg h7]
    by_cases h11 : n % 11 = 2
    · rw [if_pos h11]
      cases ns with
      | nil => exact ⟨_, cut_of a a0 a1, cut_mem a a0 a1⟩
      | cons x xs =>
        rw [if_pos (by simp only [List.length_cons]; omega), if_pos (by simp only [List.length_cons]; omega)]
        have b0 := Int.emod_nonneg (rd (x :: xs) 0) (show (7 : Int) ≠ 0 by omega)
        have b1 := Int.emod_lt_of_pos (rd (x :: xs) 0) (show (0 : Int) < 7 by omega)
        generalize rd (x :: xs) 0 % 7 = b at *
        have : b = 0 ∨ b = 1 ∨ b = 2 ∨ b = 3 ∨ b = 4 ∨ b = 5 ∨ b = 6 := by omega
        rcases this with rfl | rfl | rfl | rfl | rfl | rfl | rfl <;> exact ⟨_, rfl, by simp [symsAll, sy, rd_T40]⟩
    · rw [if_neg h11]
      exact ⟨_, cut_of a a0 a1, cut_mem a a0 a1⟩
theorem syms_good (n : Int) (ns : List Int) : ∃ l, canopylaw1_Syms.f n ns = some l ∧ goodB l = true := by
  obtain ⟨l, h, hm⟩ := syms_some n ns
  exact ⟨l, h, List.all_eq_true.1 symsAll_good l hm⟩
theorem good_len {l : List S40} (h : goodB l = true) : 0 < l.length ∧ l.length ≤ 20 := by
  simp only [goodB, Bool.and_eq_true, decide_eq_true_eq] at h
  exact ⟨h.1.1.1, h.1.1.2⟩
theorem good_at {l : List S40} (h : goodB l = true) {x : S40} (hx : x ∈ l) : nameB x.f0 = true ∧ kindB x.f1 = true := by
  simp only [goodB, Bool.and_eq_true, decide_eq_true_eq, List.all_eq_true] at h
  exact h.1.2 x hx
theorem distinct_inj : ∀ (l : List (List UInt8 × Int)), distinct l = true → ∀ i j (hi : i < l.length) (hj : j < l.length), l[i] = l[j] → i = j
  | [], _, i, _, hi, _, _ => by simp at hi
  | x :: xs, h, i, j, hi, hj, e => by
    simp only [distinct, Bool.and_eq_true, Bool.not_eq_true'] at h
    have hn : ∀ y ∈ xs, y ≠ x := fun y hy he => by
      subst he
      have := List.contains_iff_mem.2 hy
      rw [h.1] at this
      cases this
    cases i with
    | zero =>
      cases j with
      | zero => rfl
      | succ j =>
        exact absurd e.symm (hn _ (List.getElem_mem _))
    | succ i =>
      cases j with
      | zero => exact absurd e (hn _ (List.getElem_mem _))
      | succ j => rw [distinct_inj xs h.2 i j (by simpa using hi) (by simpa using hj) e]
end Go.Proofs.YtiibfkjfanglbaaL
