/- How a text is read: what the program and the reference come to, as one plain function. -/
import Derived.Test.YtiibfkjfanglbaaPx6
import Derived.Test.YtiibfkjfanglbaaPx9
import Derived.Test.YtiibfkjfanglbaaPx10
import Derived.Test.YtiibfkjfanglbaaPx11
import Derived.Test.YtiibfkjfanglbaaPx24
import Derived.Test.YtiibfkjfanglbaaPx25
import Derived.Test.YtiibfkjfanglbaaPx26
import Derived.Test.YtiibfkjfanglbaaPx27
import Derived.Test.YtiibfkjfanglbaaPx7
import Derived.Test.YtiibfkjfanglbaaPx8
import Derived.Test.YtiibfkjfanglbaaWordLib
namespace Go.Proofs.YtiibfkjfanglbaaL
open Go.RowKit Go.Proofs.Ytiibfkjfanglbaa.P Go.Proofs.YtiibfkjfanglbaaW.PrintWords Go.Proofs.YtiibfkjfanglbaaW.PrintLast Go.Proofs.YtiibfkjfanglbaaW.PrintMore

def B (bs : List UInt8) : ByteArray := ⟨bs.toArray⟩
def L (s : ByteArray) : List UInt8 := s.data.toList
theorem L_B (bs : List UInt8) : L (B bs) = bs := by simp [L, B]
theorem B_L (s : ByteArray) : B (L s) = s := by simp [L, B]
theorem L_len (s : ByteArray) : (L s).length = s.size := by simp only [L, Array.length_toList]; rfl
theorem B_size (bs : List UInt8) : (B bs).size = bs.length := by rw [← L_len, L_B]
theorem toL (s : ByteArray) : s.toList = L s := ByteArray.toList_eq s
theorem L_append (a b : ByteArray) : L (a ++ b) = L a ++ L b := by simp [L]
theorem L_extract (s : ByteArray) (i j : Nat) : L (s.extract i j) = ((L s).drop i).take (j - i) := by
  have := Lib.extract_toList s i j
  rwa [toL] at this
theorem L_inj {a b : ByteArray} (h : L a = L b) : a = b := by rw [← B_L a, h, B_L]
theorem bt_L (s : ByteArray) (i : Nat) (h : i < s.size) : bt s (i : Int) = (((L s)[i]'(by rw [L_len]; exact h)).toNat : Int) := by
  unfold bt
  simp only [Int.toNat_natCast]
  rw [dif_pos h]
  rfl
theorem bt_is (s : ByteArray) (i : Nat) (h : i < s.size) (c : UInt8) : bt s (i : Int) = (c.toNat : Int) ↔ (L s)[i]'(by rw [L_len]; exact h) = c := by
  rw [bt_L s i h]
  constructor
  · intro e
    exact UInt8.toNat_inj.1 (by omega)
  · intro e
    rw [e]

def letter (b : UInt8) : Bool := decide (97 ≤ b.toNat) && decide (b.toNat ≤ 122)
def nameL (bs : List UInt8) : Bool := decide (1 ≤ bs.length) && decide (bs.length ≤ 8) && bs.all letter
theorem nameB_L (s : ByteArray) : nameB s = nameL (L s) := by
  unfold nameB nameL
  rw [L_len]
  rfl
theorem all_drop_cons {bs : List UInt8} {i : Nat} (h : i < bs.length) : (bs.drop i).all letter = (letter bs[i] && (bs.drop (i + 1)).all letter) := by
  rw [List.drop_eq_getElem_cons h, List.all_cons]
theorem letter_iff (s : ByteArray) (i : Nat) (h : i < s.size) : letter ((L s)[i]'(by rw [L_len]; exact h)) = true ↔ ¬ (bt s (i : Int) < 97) ∧ ¬ (bt s (i : Int) > 122) := by
  rw [bt_L s i h]
  unfold letter
  simp only [Bool.and_eq_true, decide_eq_true_eq]
  omega
theorem named_l0 (s : ByteArray) (hs : s.size ≤ 9223372036854770000) : ∀ (d i : Nat), i + d = s.size → Ev (fun k => word_named.l0 k s (s.size : Int) (i : Int)) (decide (1 ≤ s.size) && decide (s.size ≤ 8) && ((L s).drop i).all letter) := by
  intro d
  induction d with
  | zero =>
    intro i hi
    refine Ev.step (fun k => rfl) ?_
    simp only [word_named.l0, if_neg (show ¬ ((i : Int) < (s.size : Int)) by omega)]
    rw [List.drop_eq_nil_of_le (by rw [L_len]; omega), List.all_nil, Bool.and_true]
    by_cases h : 1 ≤ s.size
    · simp only [if_pos (show (s.size : Int) ≥ 1 by omega)]
      refine ev_all fun _ => ?_
      simp [h]
      omega
    · simp only [if_neg (show ¬ ((s.size : Int) ≥ 1) by omega)]
      exact ev_all fun _ => by simp [h]
  | succ d ih =>
    intro i hi
    have hl : i < (L s).length := by rw [L_len]; omega
    have hlt : i < s.size := by omega
    refine Ev.step (fun k => rfl) ?_
    simp only [word_named.l0, if_pos (show ((i : Int) < (s.size : Int)) by omega), if_pos (show (0 : Int) ≤ (i : Int) by omega), wrap_succ i (by omega)]
    rw [all_drop_cons hl]
    by_cases hc : letter ((L s)[i]'hl) = true
    · have h2 := (letter_iff s i hlt).1 hc
      simp only [if_neg h2.1, if_neg h2.2]
      rw [hc, Bool.true_and]
      exact ih (i + 1) (by omega)
    · have hcf : letter ((L s)[i]'hl) = false := by simpa using hc
      rw [hcf]
      by_cases h1 : bt s (i : Int) < 97
      · simp only [if_pos h1]
        exact ev_all fun _ => by simp
      · have h2 : bt s (i : Int) > 122 := Classical.byContradiction fun h3 => hc ((letter_iff s i hlt).2 ⟨h1, h3⟩)
        simp only [if_neg h1, if_pos h2]
        exact ev_all fun _ => by simp
theorem named_ev (s : ByteArray) (hs : s.size ≤ 9223372036854770000) : Ev (fun k => word_named.f k s) (nameL (L s)) := by
  have := named_l0 s hs s.size 0 (by omega)
  rw [List.drop_zero] at this
  unfold nameL
  rw [L_len]
  exact this
theorem letters_l0 (s : ByteArray) (hs : s.size ≤ 9223372036854770000) : ∀ (d i : Nat), i + d = s.size → Ev (fun k => canopyref1_Letters.l0 k s (i : Int)) (decide (1 ≤ s.size) && decide (s.size ≤ 8) && ((L s).drop i).all letter) := by
  intro d
  induction d with
  | zero =>
    intro i hi
    refine Ev.step (fun k => rfl) ?_
    simp only [canopyref1_Letters.l0, if_neg (show ¬ ((i : Int) < (s.size : Int)) by omega)]
    rw [List.drop_eq_nil_of_le (by rw [L_len]; omega), List.all_nil, Bool.and_true]
    by_cases h : 1 ≤ s.size
    · simp only [if_pos (show (s.size : Int) > 0 by omega)]
      refine ev_all fun _ => ?_
      simp [h]
      omega
    · simp only [if_neg (show ¬ ((s.size : Int) > 0) by omega)]
      exact ev_all fun _ => by simp [h]
  | succ d ih =>
    intro i hi
    have hl : i < (L s).length := by rw [L_len]; omega
    have hlt : i < s.size := by omega
    refine Ev.step (fun k => rfl) ?_
    simp only [canopyref1_Letters.l0, if_pos (show ((i : Int) < (s.size : Int)) by omega), if_pos (show (0 : Int) ≤ (i : Int) by omega), wrap_succ i (by omega)]
    rw [all_drop_cons hl]
    by_cases hc : letter ((L s)[i]'hl) = true
    · have h2 := (letter_iff s i hlt).1 hc
      simp only [if_neg h2.1, if_neg h2.2]
      rw [hc, Bool.true_and]
      exact ih (i + 1) (by omega)
    · have hcf : letter ((L s)[i]'hl) = false := by simpa using hc
      rw [hcf]
      by_cases h1 : bt s (i : Int) < 97
      · simp only [if_pos h1]
        exact ev_all fun _ => by simp
      · have h2 : bt s (i : Int) > 122 := Classical.byContradiction fun h3 => hc ((letter_iff s i hlt).2 ⟨h1, h3⟩)
        simp only [if_neg h1, if_pos h2]
        exact ev_all fun _ => by simp
theorem letters_ev (s : ByteArray) (hs : s.size ≤ 9223372036854770000) : Ev (fun k => canopyref1_Letters.f k s) (nameL (L s)) := by
  have := letters_l0 s hs s.size 0 (by omega)
  rw [List.drop_zero] at this
  unfold nameL
  rw [L_len]
  exact this

/-! a text as a symbol -/
def tokIn (inner : List UInt8) : Option (List UInt8 × Int) := match inner with
  | 47 :: q => if nameL q then some (q, 2) else none
  | q => if nameL q then some (q, 1) else none
def tok (bs : List UInt8) : Option (List UInt8 × Int) := match bs with
  | 60 :: r => if r.getLast? = some 62 then tokIn r.dropLast else none
  | q => if nameL q then some (q, 3) else none
theorem tok_lt (r : List UInt8) : tok (60 :: r) = if r.getLast? = some 62 then tokIn r.dropLast else none := rfl
theorem tok_other {c : UInt8} {r : List UInt8} (h : c ≠ 60) : tok (c :: r) = if nameL (c :: r) then some (c :: r, 3) else none := by
  unfold tok
  split
  · rename_i e
    exact absurd (List.cons.inj e).1 h
  · rfl
theorem tok_nil : tok [] = none := rfl
theorem tokIn_sl (q : List UInt8) : tokIn (47 :: q) = if nameL q then some (q, 2) else none := rfl
theorem tokIn_other {c : UInt8} {r : List UInt8} (h : c ≠ 47) : tokIn (c :: r) = if nameL (c :: r) then some (c :: r, 1) else none := by
  unfold tokIn
  split
  · rename_i e
    exact absurd (List.cons.inj e).1 h
  · rfl
/-- What the program's 'sym' says: kind 0 where there is none. -/
def symOf (bs : List UInt8) : ByteArray × Int := match tok bs with
  | some (q, k) => (B q, k)
  | none => (⟨#[]⟩, 0)
theorem suf_iff (q : List UInt8) : Lib.hasSuffix q [62] = true ↔ q.getLast? = some 62 := by
  unfold Lib.hasSuffix
  rw [List.isSuffixOf_iff_suffix]
  constructor
  · rintro ⟨t, rfl⟩
    simp
  · intro h
    obtain ⟨ys, rfl⟩ := List.getLast?_eq_some_iff.1 h
    exact ⟨ys, rfl⟩
theorem trim_suf (q : List UInt8) (h : Lib.hasSuffix q [62] = true) : Lib.trimSuffix q [62] = q.dropLast := by
  unfold Lib.trimSuffix
  rw [if_pos h, List.dropLast_eq_take]
  rfl
theorem j0_ev (r : List UInt8) (k0 : Int) (hr : r.length ≤ 9223372036854770000) : Ev (fun k => word_sym.j0 k (B r) k0) (if r.getLast? = some 62 then (if nameL r.dropLast then (B r.dropLast, k0) else (⟨#[]⟩, 0)) else (⟨#[]⟩, 0)) := by
  refine Ev.step (fun k => rfl) ?_
  simp only [word_sym.j0, strings_CutSuffix.f, if_pos (show (B r).size ≤ 9223372036854775807 by rw [B_size]; omega), Option.bind_some]
  have e1 : (B r).data.toList = r := L_B r
  rw [e1]
  by_cases h : Lib.hasSuffix r [62] = true
  · have hg := (suf_iff r).1 h
    simp only [if_pos h, if_pos hg, trim_suf r h]
    have hn := named_ev (B r.dropLast) (by rw [B_size, List.length_dropLast]; omega)
    rw [L_B] at hn
    refine Ev.bind hn ?_
    by_cases hnm : nameL r.dropLast = true
    · simp only [if_pos hnm]
      exact ev_all fun _ => rfl
    · simp only [if_neg hnm]
      exact ev_all fun _ => rfl
  · have hg : ¬ r.getLast? = some 62 := fun e => h ((suf_iff r).2 e)
    simp only [if_neg h, if_neg hg]
    exact ev_all fun _ => rfl
theorem hasPrefix_one (bs : List UInt8) (c : UInt8) : Lib.hasPrefix bs [c] = (bs.head? == some c) := by
  cases bs with
  | nil => rfl
  | cons x xs => simp [Lib.hasPrefix, List.isPrefixOf, Bool.beq_comm]
theorem sym_ev (bs : List UInt8) (hb : bs.length ≤ 9223372036854770000) : Ev (fun k => word_sym.f k (B bs)) (symOf bs) := by
  unfold word_sym.f symOf
  have e1 : (B bs).data.toList = bs := L_B bs
  simp only [strings_CutPrefix.f, Option.bind_some, e1, hasPrefix_one]
  cases bs with
  | nil =>
    simp only [List.head?_nil, show ((none : Option UInt8) == some 60) = false from rfl, Bool.false_eq_true, if_false, tok_nil]
    have hn := named_ev (B []) (by rw [B_size]; simp)
    rw [L_B] at hn
    refine Ev.bind hn ?_
    simp only [show nameL [] = false from rfl, Bool.false_eq_true, if_false]
    exact ev_all fun _ => rfl
  | cons c r =>
    simp only [List.length_cons] at hb
    by_cases h60 : c = 60
    · subst h60
      have hp : Lib.hasPrefix (60 :: r) [60] = true := by rw [hasPrefix_one]; simp
      have e4 : Lib.trimPrefix (60 :: r) [60] = r := by unfold Lib.trimPrefix; rw [if_pos hp]; rfl
      simp only [List.head?_cons, show (some (60 : UInt8) == some 60) = true from by simp, if_true, e4, tok_lt]
      cases r with
      | nil =>
        simp only [List.head?_nil, show ((none : Option UInt8) == some 47) = false from rfl, Bool.false_eq_true, if_false]
        exact j0_ev [] 1 (by simp)
      | cons d q =>
        by_cases h47 : d = 47
        · subst h47
          have hp2 : Lib.hasPrefix (47 :: q) [47] = true := by rw [hasPrefix_one]; simp
          have e5 : Lib.trimPrefix (47 :: q) [47] = q := by unfold Lib.trimPrefix; rw [if_pos hp2]; rfl
          simp only [List.head?_cons, show (some (47 : UInt8) == some 47) = true from by simp, if_true, e5]
          have := j0_ev q 2 (by simp only [List.length_cons] at hb; omega)
          cases q with
          | nil => exact this
          | cons x xs =>
            have hgl : (47 :: x :: xs).getLast? = (x :: xs).getLast? := by simp [List.getLast?_cons_cons]
            have hdl : (47 :: x :: xs).dropLast = 47 :: (x :: xs).dropLast := rfl
            rw [hgl, hdl, tokIn_sl]
            by_cases hg : (x :: xs).getLast? = some 62
            · simp only [if_pos hg] at this ⊢
              by_cases hnm : nameL (x :: xs).dropLast = true
              · simp only [if_pos hnm] at this ⊢
                exact this
              · simp only [if_neg hnm] at this ⊢
                exact this
            · simp only [if_neg hg] at this ⊢
              exact this
        · simp only [List.head?_cons, show (some d == some (47 : UInt8)) = false from by simp [h47], Bool.false_eq_true, if_false]
          have := j0_ev (d :: q) 1 (by simp only [List.length_cons] at hb ⊢; omega)
          by_cases hg : (d :: q).getLast? = some 62
          · simp only [if_pos hg] at this ⊢
            have hin : tokIn (d :: q).dropLast = if nameL (d :: q).dropLast then some ((d :: q).dropLast, 1) else none := by
              cases q with
              | nil => rfl
              | cons x xs => exact tokIn_other h47
            rw [hin]
            by_cases hnm : nameL (d :: q).dropLast = true
            · simp only [if_pos hnm] at this ⊢
              exact this
            · simp only [if_neg hnm] at this ⊢
              exact this
          · simp only [if_neg hg] at this ⊢
            exact this
    · simp only [List.head?_cons, show (some c == some (60 : UInt8)) = false from by simp [h60], Bool.false_eq_true, if_false, tok_other h60]
      have hn := named_ev (B (c :: r)) (by rw [B_size, List.length_cons]; omega)
      rw [L_B] at hn
      refine Ev.bind hn ?_
      by_cases hnm : nameL (c :: r) = true
      · simp only [if_pos hnm]
        exact ev_all fun _ => rfl
      · simp only [if_neg hnm]
        exact ev_all fun _ => rfl
end Go.Proofs.YtiibfkjfanglbaaL
