/- How a text is read, second part: the reference's symbols, the places of symbols, the whole text. -/
import Derived.Test.YtiibfkjfanglbaaPx10
import Derived.Test.YtiibfkjfanglbaaPx11
import Derived.Test.YtiibfkjfanglbaaPx25
import Derived.Test.YtiibfkjfanglbaaPx26
import Derived.Test.YtiibfkjfanglbaaPx27
import Derived.Test.YtiibfkjfanglbaaWordParse
namespace Go.Proofs.YtiibfkjfanglbaaL
open Go.RowKit Go.Proofs.Ytiibfkjfanglbaa.P Go.Proofs.YtiibfkjfanglbaaW.PrintWords Go.Proofs.YtiibfkjfanglbaaW.PrintLast Go.Proofs.YtiibfkjfanglbaaW.PrintMore

theorem B_extract (bs : List UInt8) (i j : Nat) : (B bs).extract i j = B ((bs.drop i).take (j - i)) := L_inj (by rw [L_extract, L_B, L_B])
theorem bt_B {bs : List UInt8} {i : Nat} (h : i < bs.length) : bt (B bs) (i : Int) = (bs[i].toNat : Int) := by
  rw [bt_L (B bs) i (by rw [B_size]; exact h)]
  simp only [L_B]
theorem bt_c {b c : UInt8} : ((b.toNat : Int) = (c.toNat : Int)) ↔ b = c := by
  constructor
  · intro h
    exact UInt8.toNat_inj.1 (by omega)
  · intro h
    rw [h]
/-- What the reference's 'Read' answers fits: its bool says whether it is a symbol's text; if so, whose. -/
def readIs (bs : List UInt8) (r : ByteArray × Int × Bool) : Prop := match tok bs with
  | some (q, k) => r = (B q, k, true)
  | none => r.2.2 = false
theorem letters_B (q : List UInt8) (h : q.length ≤ 9223372036854770000) : Ev (fun k => canopyref1_Letters.f k (B q)) (nameL q) := by
  have := letters_ev (B q) (by rw [B_size]; exact h)
  rwa [L_B] at this
theorem read_plain (bs : List UInt8) (hb : bs.length ≤ 9223372036854770000) (h : tok bs = if nameL bs then some (bs, 3) else none) : ∃ r, Ev (fun k => canopyref1_Read.j0 k (B bs) false (B bs) 3) r ∧ readIs bs r := by
  refine ⟨(B bs, 3, nameL bs), ?_, ?_⟩
  · refine Ev.step (fun k => rfl) ?_
    simp only [canopyref1_Read.j0, Bool.false_eq_true, if_false]
    refine Ev.bind (letters_B bs hb) ?_
    exact ev_all fun _ => rfl
  · unfold readIs
    rw [h]
    by_cases hn : nameL bs = true
    · simp [hn]
    · simp [hn]
theorem read_ev (bs : List UInt8) (hb : bs.length ≤ 9223372036854770000) : ∃ r, Ev (fun k => canopyref1_Read.f k (B bs)) r ∧ readIs bs r := by
  unfold canopyref1_Read.f
  rw [toL, L_B]
  cases bs with
  | nil =>
    simp only [if_true]
    exact read_plain [] (by simp) rfl
  | cons c r =>
    simp only [List.length_cons] at hb
    have hsz : ((B (c :: r)).size : Int) = (r.length : Int) + 1 := by rw [B_size, List.length_cons]; omega
    have hw : wrap64 ((r.length : Int) + 1 - 1) = (r.length : Int) := by rw [wrap_id (by omega) (by omega)]; omega
    have h0 : bt (B (c :: r)) 0 = (c.toNat : Int) := bt_B (bs := c :: r) (i := 0) (by simp)
    have hlast : bt (B (c :: r)) (r.length : Int) = (((c :: r)[r.length]'(by simp)).toNat : Int) := bt_B (bs := c :: r) (i := r.length) (by simp)
    simp only [reduceCtorEq, if_false, hsz, if_pos (show (0 : Int) < (r.length : Int) + 1 by omega), h0]
    by_cases h60 : c = 60
    · subst h60
      simp only [show ((60 : UInt8).toNat : Int) = 60 from rfl, if_true, hw, if_pos (show (0 : Int) ≤ (r.length : Int) by omega), if_pos (show (r.length : Int) < (r.length : Int) + 1 by omega), hlast]
      cases r with
      | nil => exact read_plain [60] (by simp) rfl
      | cons d q =>
        have hgl : (60 :: d :: q)[(d :: q).length]'(by simp) = (d :: q)[q.length]'(by simp) := rfl
        have hgl2 : (d :: q).getLast? = some ((d :: q)[q.length]'(by simp)) := by rw [List.getLast?_eq_getElem?]; simp
        rw [hgl]
        by_cases h62 : (d :: q)[q.length]'(by simp) = 62
        · have hl62 : (d :: q).getLast? = some 62 := by rw [hgl2, h62]
          rw [h62]
          simp only [show (((62 : UInt8).toNat : Int) == 62) = true from rfl]
          have hd : bt (B (60 :: d :: q)) 1 = (d.toNat : Int) := bt_B (bs := 60 :: d :: q) (i := 1) (by simp)
          have ex1 : (B (60 :: d :: q)).extract 1 (q.length + 1) = B (d :: q).dropLast := by rw [B_extract, List.dropLast_eq_take]; rfl
          have lenq : ((d :: q).length : Int) = (q.length : Int) + 1 := by simp
          have hw2 : wrap64 ((q.length : Int) + 1 + 1 - 1) = (q.length : Int) + 1 := by simp only [List.length_cons] at hb; rw [wrap_id (by omega) (by omega)]; omega
          have tn : ((q.length : Int) + 1).toNat = q.length + 1 := by omega
          have hlet := letters_B (d :: q).dropLast (by rw [List.length_dropLast]; omega)
          have one : (q = [] ∨ d ≠ 47) → ∃ r, Ev (fun k => (canopyref1_Letters.f k (B (d :: q).dropLast)).bind fun t => some (B (d :: q).dropLast, (1 : Int), t)) r ∧ readIs (60 :: d :: q) r := by
            intro hcase
            refine ⟨(B (d :: q).dropLast, 1, nameL (d :: q).dropLast), Ev.bind hlet (ev_all fun _ => rfl), ?_⟩
            have htok : tok (60 :: d :: q) = if nameL (d :: q).dropLast then some ((d :: q).dropLast, 1) else none := by
              rw [tok_lt, if_pos hl62]
              rcases hcase with rfl | hne
              · rfl
              · cases q with
                | nil => rfl
                | cons x xs => exact tokIn_other hne
            unfold readIs
            rw [htok]
            by_cases hn : nameL (d :: q).dropLast = true
            · simp [hn]
            · simp [hn]
          have body : ∀ k, canopyref1_Read.j0 (k + 1) (B (60 :: d :: q)) true (B (60 :: d :: q)) 3 = if 2 ≤ q.length + 1 ∧ d = 47 then (canopyref1_Letters.f k (B ((q.take (q.length - 1))))).bind fun t => some (B (q.take (q.length - 1)), (2 : Int), t) else (canopyref1_Letters.f k (B (d :: q).dropLast)).bind fun t => some (B (d :: q).dropLast, (1 : Int), t) := by
            intro k
            have hsz2 : ((B (60 :: d :: q)).size : Int) = (q.length : Int) + 1 + 1 := by rw [hsz, lenq]
            simp only [canopyref1_Read.j0, hsz2, hw2, if_true, if_pos (show (1 : Int) ≤ (q.length : Int) + 1 by omega), if_pos (show (q.length : Int) + 1 ≤ (q.length : Int) + 1 + 1 by omega), tn, ex1]
            by_cases hq : 1 ≤ q.length
            · simp only [if_pos (show (q.length : Int) + 1 + 1 > 2 by omega), if_pos (show (1 : Int) < (q.length : Int) + 1 + 1 by omega), hd]
              by_cases h47 : d = 47
              · have h47i : (d.toNat : Int) = 47 := by rw [h47]; rfl
                have ex2 : (B (60 :: d :: q)).extract 2 (q.length + 1) = B (q.take (q.length - 1)) := by rw [B_extract]; rfl
                simp only [if_pos h47i, if_pos (show (2 : Int) ≤ (q.length : Int) + 1 by omega), ex2, if_pos (show 2 ≤ q.length + 1 ∧ d = 47 from ⟨by omega, h47⟩)]
              · have h47i : ¬ (d.toNat : Int) = 47 := fun e => h47 (bt_c.1 (e.trans rfl))
                simp only [if_neg h47i, if_neg (show ¬ (2 ≤ q.length + 1 ∧ d = 47) from fun e => h47 e.2)]
            · simp only [if_neg (show ¬ ((q.length : Int) + 1 + 1 > 2) by omega), if_neg (show ¬ (2 ≤ q.length + 1 ∧ d = 47) from fun e => hq (by omega))]
          by_cases hcase : 2 ≤ q.length + 1 ∧ d = 47
          · refine ⟨(B (q.take (q.length - 1)), 2, nameL (q.take (q.length - 1))), ?_, ?_⟩
            · refine Ev.step body ?_
              simp only [if_pos hcase]
              exact Ev.bind (letters_B _ (by rw [List.length_take]; simp only [List.length_cons] at hb; omega)) (ev_all fun _ => rfl)
            · obtain ⟨hq, rfl⟩ := hcase
              have htok : tok (60 :: 47 :: q) = if nameL (q.take (q.length - 1)) then some (q.take (q.length - 1), 2) else none := by
                rw [tok_lt, if_pos hl62]
                cases q with
                | nil => simp at hq
                | cons x xs =>
                  rw [← List.dropLast_eq_take]
                  rfl
              unfold readIs
              rw [htok]
              by_cases hn : nameL (q.take (q.length - 1)) = true
              · simp [hn]
              · simp [hn]
          · obtain ⟨r, h1, h2⟩ := one (by
              by_cases hq : q = []
              · exact .inl hq
              · refine .inr fun e => hcase ⟨?_, e⟩
                have : 0 < q.length := List.length_pos_iff.2 hq
                omega)
            refine ⟨r, Ev.step body ?_, h2⟩
            simp only [if_neg hcase]
            exact h1
        · have hl62 : ¬ (d :: q).getLast? = some 62 := fun e => h62 (by rw [hgl2] at e; exact Option.some.inj e)
          have hb62 : (((((d :: q)[q.length]'(by simp)).toNat : Nat) : Int) == 62) = false := beq_eq_false_iff_ne.2 (fun e => h62 (bt_c.1 (e.trans rfl)))
          rw [hb62]
          refine read_plain (60 :: d :: q) hb ?_
          rw [tok_lt, if_neg hl62]
          have : nameL (60 :: d :: q) = false := by simp [nameL, letter]
          rw [this]
          rfl
    · have h60i : ¬ (c.toNat : Int) = 60 := fun e => h60 (bt_c.1 (e.trans rfl))
      simp only [if_neg h60i]
      exact read_plain (c :: r) hb (tok_other h60)

/-! the place of a symbol -/
def fidx : List S40 → List UInt8 × Int → Nat → Int
  | [], _, _ => -1
  | x :: xs, q, i => if key x = q then (i : Int) else fidx xs q (i + 1)
theorem place_l0 (l : List S40) (hl : l.length ≤ 1000) (s : ByteArray) (k0 : Int) : ∀ (d i : Nat), i + d = l.length → Ev (fun k => word_place.l0 k l (l.length : Int) (i : Int) s k0) (fidx (l.drop i) (L s, k0) i) := by
  intro d
  induction d with
  | zero =>
    intro i hi
    refine Ev.step (fun k => rfl) ?_
    simp only [word_place.l0, if_neg (show ¬ ((i : Int) < (l.length : Int)) by omega)]
    rw [List.drop_eq_nil_of_le (by omega)]
    exact ev_all fun _ => rfl
  | succ d ih =>
    intro i hi
    have hlt : i < l.length := by omega
    refine Ev.step (fun k => rfl) ?_
    simp only [word_place.l0, if_pos (show ((i : Int) < (l.length : Int)) by omega), if_pos (show (0 : Int) ≤ (i : Int) by omega), wrap_succ i (by omega), rdT_get hlt, toL]
    rw [List.drop_eq_getElem_cons hlt]
    by_cases h : key l[i] = (L s, k0)
    · have hb : (L s == L l[i].f0 && k0 == l[i].f1) = true := by
        have := Prod.mk.inj (show (L l[i].f0, l[i].f1) = (L s, k0) from h)
        simp [this.1, this.2]
      simp only [if_pos hb]
      exact ev_all fun _ => by rw [fidx, if_pos h]
    · have hb : ¬ (L s == L l[i].f0 && k0 == l[i].f1) = true := fun e => h (by
        simp only [Bool.and_eq_true, beq_iff_eq] at e
        exact Prod.ext e.1.symm e.2.symm)
      simp only [if_neg hb, fidx, if_neg h]
      exact ih (i + 1) (by omega)
theorem place_ev (l : List S40) (hl : l.length ≤ 1000) (s : ByteArray) (k0 : Int) : Ev (fun k => word_place.f k l s k0) (fidx l (L s, k0) 0) := by
  have := place_l0 l hl s k0 l.length 0 (by omega)
  rwa [List.drop_zero] at this
theorem find_l0 (l : List S40) (hl : l.length ≤ 1000) (s : ByteArray) (k0 : Int) : ∀ (d i : Nat), i + d = l.length → Ev (fun k => canopyref1_Find.l0 k l (i : Int) s k0) (fidx (l.drop i) (L s, k0) i) := by
  intro d
  induction d with
  | zero =>
    intro i hi
    refine Ev.step (fun k => rfl) ?_
    simp only [canopyref1_Find.l0, if_neg (show ¬ ((i : Int) < (l.length : Int)) by omega)]
    rw [List.drop_eq_nil_of_le (by omega)]
    exact ev_all fun _ => rfl
  | succ d ih =>
    intro i hi
    have hlt : i < l.length := by omega
    refine Ev.step (fun k => rfl) ?_
    simp only [canopyref1_Find.l0, if_pos (show ((i : Int) < (l.length : Int)) by omega), if_pos (show (0 : Int) ≤ (i : Int) by omega), wrap_succ i (by omega), rdT_get hlt, toL]
    rw [List.drop_eq_getElem_cons hlt]
    by_cases h : key l[i] = (L s, k0)
    · have hb : (L l[i].f0 == L s && l[i].f1 == k0) = true := by
        have := Prod.mk.inj (show (L l[i].f0, l[i].f1) = (L s, k0) from h)
        simp [this.1, this.2]
      simp only [if_pos hb]
      exact ev_all fun _ => by rw [fidx, if_pos h]
    · have hb : ¬ (L l[i].f0 == L s && l[i].f1 == k0) = true := fun e => h (by
        simp only [Bool.and_eq_true, beq_iff_eq] at e
        exact Prod.ext e.1 e.2)
      simp only [if_neg hb, fidx, if_neg h]
      exact ih (i + 1) (by omega)
theorem find_ev (l : List S40) (hl : l.length ≤ 1000) (s : ByteArray) (k0 : Int) : Ev (fun k => canopyref1_Find.f k l s k0) (fidx l (L s, k0) 0) := by
  have := find_l0 l hl s k0 l.length 0 (by omega)
  rwa [List.drop_zero] at this

/-! the whole text -/
def blanks (bs : List UInt8) : Nat := (bs.takeWhile (· == 32)).length
def reach (bs : List UInt8) : Nat := (bs.takeWhile (· != 32)).length
def pgo (l : List S40) : Nat → List UInt8 → Nat → List Int → List Int × Int × Int
  | 0, _, _, _ => ([], 0, 0)
  | n + 1, bs, at_, acc =>
    let b := bs.drop (blanks bs)
    if b = [] then (acc, 0, 0) else
    match tok (b.take (reach b)) with
    | none => ([], ((at_ + blanks bs : Nat) : Int), 1)
    | some q => if fidx l q 0 < 0 then ([], ((at_ + blanks bs : Nat) : Int), 6) else pgo l n (b.drop (reach b)) (at_ + blanks bs + reach b) (acc ++ [fidx l q 0])
def parseOf (l : List S40) (s : ByteArray) : List Int × Int × Int := if 2000 < s.size then ([], 0, 2) else pgo l (s.size + 1) (L s) 0 []
end Go.Proofs.YtiibfkjfanglbaaL
