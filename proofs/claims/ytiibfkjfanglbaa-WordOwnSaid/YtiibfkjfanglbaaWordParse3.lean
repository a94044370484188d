/- How a text is read, third part: both come to the same. -/
import Derived.Test.YtiibfkjfanglbaaPx11
import Derived.Test.YtiibfkjfanglbaaPx27
import Derived.Test.YtiibfkjfanglbaaWordParse2
namespace Go.Proofs.YtiibfkjfanglbaaL
open Go.RowKit Go.Proofs.Ytiibfkjfanglbaa.P Go.Proofs.YtiibfkjfanglbaaW.PrintWords Go.Proofs.YtiibfkjfanglbaaW.PrintLast Go.Proofs.YtiibfkjfanglbaaW.PrintMore

theorem blanks_nil : blanks [] = 0 := rfl
theorem blanks_cons (c : UInt8) (t : List UInt8) : blanks (c :: t) = if c = 32 then blanks t + 1 else 0 := by
  unfold blanks
  rw [List.takeWhile_cons]
  by_cases h : c = 32
  · simp [h]
  · simp [h]
theorem reach_nil : reach [] = 0 := rfl
theorem reach_cons (c : UInt8) (t : List UInt8) : reach (c :: t) = if c = 32 then 0 else reach t + 1 := by
  unfold reach
  rw [List.takeWhile_cons]
  by_cases h : c = 32
  · simp [h]
  · simp [h]
theorem blanks_le : ∀ bs, blanks bs ≤ bs.length
  | [] => by simp [blanks]
  | c :: t => by
    rw [blanks_cons]
    have := blanks_le t
    split <;> simp <;> omega
theorem reach_le : ∀ bs, reach bs ≤ bs.length
  | [] => by simp [reach]
  | c :: t => by
    rw [reach_cons]
    have := reach_le t
    split <;> simp <;> omega
theorem behind_blanks : ∀ (bs : List UInt8) (c : UInt8) (t : List UInt8), bs.drop (blanks bs) = c :: t → c ≠ 32
  | [], c, t, h => by simp at h
  | x :: xs, c, t, h => by
    rw [blanks_cons] at h
    by_cases hx : x = 32
    · rw [if_pos hx, List.drop_succ_cons] at h
      exact behind_blanks xs c t h
    · rw [if_neg hx, List.drop_zero] at h
      rw [← (List.cons.inj h).1]
      exact hx
theorem L_drop {s : ByteArray} {i : Nat} (h : i < s.size) : (L s).drop i = (L s)[i]'(by rw [L_len]; exact h) :: (L s).drop (i + 1) := List.drop_eq_getElem_cons (by rw [L_len]; exact h)
theorem tok_kind {bs q : List UInt8} {k : Int} (h : tok bs = some (q, k)) : k ≠ 0 := by
  unfold tok at h
  split at h
  · split at h
    · unfold tokIn at h
      split at h
      · split at h
        · simp at h; omega
        · simp at h
      · split at h
        · simp at h; omega
        · simp at h
    · simp at h
  · split at h
    · simp at h; omega
    · simp at h
theorem pskip (l : List S40) (s : ByteArray) (hs : s.size ≤ 2000) (acc : List Int) (r : List Int × Int × Int) : ∀ (d i : Nat), i + d = s.size → Ev (fun k => word_Parse.j2 k l s acc ((i + blanks ((L s).drop i) : Nat) : Int)) r → Ev (fun k => word_Parse.l1 k l s acc (i : Int)) r := by
  intro d
  induction d with
  | zero =>
    intro i hi h
    rw [List.drop_eq_nil_of_le (by rw [L_len]; omega), blanks_nil, Nat.add_zero] at h
    refine Ev.step (fun k => rfl) ?_
    simp only [word_Parse.l1, if_neg (show ¬ ((i : Int) < (s.size : Int)) by omega)]
    exact h
  | succ d ih =>
    intro i hi h
    have hlt : i < s.size := by omega
    refine Ev.step (fun k => rfl) ?_
    simp only [word_Parse.l1, if_pos (show ((i : Int) < (s.size : Int)) by omega), if_pos (show (0 : Int) ≤ (i : Int) by omega), wrap_succ i (by omega)]
    rw [L_drop hlt, blanks_cons] at h
    have hb : bt s (i : Int) = 32 ↔ (L s)[i]'(by rw [L_len]; exact hlt) = 32 := bt_is s i hlt 32
    by_cases hc : (L s)[i]'(by rw [L_len]; exact hlt) = 32
    · rw [if_pos hc] at h
      simp only [if_pos (hb.2 hc)]
      exact ih (i + 1) (by omega) (by rw [show i + 1 + blanks ((L s).drop (i + 1)) = i + (blanks ((L s).drop (i + 1)) + 1) by omega]; exact h)
    · rw [if_neg hc, Nat.add_zero] at h
      have hb' : ¬ bt s (i : Int) = 32 := fun e => hc (hb.1 e)
      simp only [if_neg hb']
      exact h
theorem pscan (l : List S40) (s : ByteArray) (hs : s.size ≤ 2000) (acc : List Int) (a : Int) (r : List Int × Int × Int) : ∀ (d i : Nat), i + d = s.size → Ev (fun k => word_Parse.j4 k l s acc a ((i + reach ((L s).drop i) : Nat) : Int)) r → Ev (fun k => word_Parse.l2 k l s acc a (i : Int)) r := by
  intro d
  induction d with
  | zero =>
    intro i hi h
    rw [List.drop_eq_nil_of_le (by rw [L_len]; omega), reach_nil, Nat.add_zero] at h
    refine Ev.step (fun k => rfl) ?_
    simp only [word_Parse.l2, if_neg (show ¬ ((i : Int) < (s.size : Int)) by omega)]
    exact h
  | succ d ih =>
    intro i hi h
    have hlt : i < s.size := by omega
    refine Ev.step (fun k => rfl) ?_
    simp only [word_Parse.l2, if_pos (show ((i : Int) < (s.size : Int)) by omega), if_pos (show (0 : Int) ≤ (i : Int) by omega), wrap_succ i (by omega)]
    rw [L_drop hlt, reach_cons] at h
    have hb : bt s (i : Int) = 32 ↔ (L s)[i]'(by rw [L_len]; exact hlt) = 32 := bt_is s i hlt 32
    by_cases hc : (L s)[i]'(by rw [L_len]; exact hlt) = 32
    · rw [if_pos hc, Nat.add_zero] at h
      simp only [if_pos (hb.2 hc)]
      exact h
    · rw [if_neg hc] at h
      have hb' : ¬ bt s (i : Int) = 32 := fun e => hc (hb.1 e)
      simp only [if_neg hb']
      exact ih (i + 1) (by omega) (by rw [show i + 1 + reach ((L s).drop (i + 1)) = i + (reach ((L s).drop (i + 1)) + 1) by omega]; exact h)
theorem extract_take (s : ByteArray) (a n : Nat) : s.extract a (a + n) = B (((L s).drop a).take n) := L_inj (by rw [L_extract, L_B, show a + n - a = n by omega])
theorem pparse_l0 (l : List S40) (hl : l.length ≤ 1000) (s : ByteArray) (hs : s.size ≤ 2000) : ∀ (n i : Nat) (acc : List Int), i ≤ s.size → s.size - i < n → acc.length ≤ i →
    Ev (fun k => word_Parse.l0 k l s acc (i : Int)) (pgo l n ((L s).drop i) i acc) := by
  intro n
  induction n with
  | zero => intro i acc _ h; omega
  | succ n ih =>
    intro i acc hi hn ha
    refine Ev.step (fun k => rfl) ?_
    simp only [word_Parse.l0]
    refine pskip l s hs acc _ (s.size - i) i (by omega) ?_
    have hbl := blanks_le ((L s).drop i)
    rw [List.length_drop, L_len] at hbl
    have hd : ((L s).drop i).drop (blanks ((L s).drop i)) = (L s).drop (i + blanks ((L s).drop i)) := List.drop_drop
    have hbh := behind_blanks ((L s).drop i)
    unfold pgo
    simp only [hd] at hbh ⊢
    have ha1 : i ≤ i + blanks ((L s).drop i) := by omega
    have ha2 : i + blanks ((L s).drop i) ≤ s.size := by omega
    clear hd
    generalize i + blanks ((L s).drop i) = a at *
    refine Ev.step (fun k => rfl) ?_
    simp only [word_Parse.j2]
    by_cases he : a = s.size
    · simp only [if_pos (show (a : Int) = (s.size : Int) by omega), Int.toNat_natCast, List.take_length, if_pos (show (L s).drop a = [] from List.drop_eq_nil_of_le (by rw [L_len]; omega))]
      exact ev_all fun _ => rfl
    · have hlt : a < s.size := by omega
      have hne : ¬ (L s).drop a = [] := by rw [L_drop hlt]; exact List.cons_ne_nil _ _
      simp only [if_neg (show ¬ (a : Int) = (s.size : Int) by omega), if_neg hne]
      refine pscan l s hs acc (a : Int) _ (s.size - a) a (by omega) ?_
      have hrl := reach_le ((L s).drop a)
      rw [List.length_drop, L_len] at hrl
      have hr1 : 1 ≤ reach ((L s).drop a) := by
        rw [L_drop hlt, reach_cons, if_neg (hbh _ _ (L_drop hlt))]
        omega
      refine Ev.step (fun k => rfl) ?_
      simp only [word_Parse.j4, if_pos (show (0 : Int) ≤ (a : Int) by omega), if_pos (show (a : Int) ≤ ((a + reach ((L s).drop a) : Nat) : Int) by omega), if_pos (show ((a + reach ((L s).drop a) : Nat) : Int) ≤ (s.size : Int) by omega), Int.toNat_natCast, extract_take]
      have hdr : ((L s).drop a).drop (reach ((L s).drop a)) = (L s).drop (a + reach ((L s).drop a)) := List.drop_drop
      rw [hdr]
      generalize hR : reach ((L s).drop a) = R at *
      generalize hT : ((L s).drop a).take R = T at *
      have hTl : T.length ≤ 2000 := by rw [← hT, List.length_take]; omega
      refine Ev.bind (sym_ev T (by omega)) ?_
      refine Ev.bind (place_ev l hl _ _) ?_
      unfold symOf
      cases htk : tok T with
      | none =>
        simp only [if_true]
        exact ev_all fun _ => rfl
      | some q =>
        obtain ⟨q, k0⟩ := q
        simp only [if_neg (tok_kind htk), L_B]
        by_cases hf : fidx l (q, k0) 0 < 0
        · simp only [if_pos hf]
          exact ev_all fun _ => rfl
        · simp only [if_neg hf, if_pos (show acc.length < 17592186044416 by omega)]
          exact ih (a + R) (acc ++ [fidx l (q, k0) 0]) (by omega) (by omega) (by rw [List.length_append, List.length_singleton]; omega)
theorem pparse_ev (l : List S40) (hl : l.length ≤ 1000) (s : ByteArray) : Ev (fun k => word_Parse.f k l s) (parseOf l s) := by
  unfold word_Parse.f parseOf
  by_cases h : 2000 < s.size
  · simp only [if_pos h, if_pos (show (s.size : Int) > 2000 by omega)]
    exact ev_all fun _ => rfl
  · simp only [if_neg h, if_neg (show ¬ ((s.size : Int) > 2000) by omega)]
    have := pparse_l0 l hl s (by omega) (s.size + 1) 0 [] (by omega) (by omega) (by simp)
    rwa [List.drop_zero] at this
theorem rscan (l : List S40) (s : ByteArray) (hs : s.size ≤ 2000) (acc : List Int) (a : Int) (r : List Int × Int × Int) : ∀ (d i : Nat), i + d = s.size → Ev (fun k => canopyref1_Parse.j2 k l s acc ((i + reach ((L s).drop i) : Nat) : Int) a) r → Ev (fun k => canopyref1_Parse.l1 k l s acc (i : Int) a) r := by
  intro d
  induction d with
  | zero =>
    intro i hi h
    rw [List.drop_eq_nil_of_le (by rw [L_len]; omega), reach_nil, Nat.add_zero] at h
    refine Ev.step (fun k => rfl) ?_
    simp only [canopyref1_Parse.l1, if_neg (show ¬ ((i : Int) < (s.size : Int)) by omega)]
    exact h
  | succ d ih =>
    intro i hi h
    have hlt : i < s.size := by omega
    refine Ev.step (fun k => rfl) ?_
    simp only [canopyref1_Parse.l1, if_pos (show ((i : Int) < (s.size : Int)) by omega), if_pos (show (0 : Int) ≤ (i : Int) by omega), wrap_succ i (by omega)]
    rw [L_drop hlt, reach_cons] at h
    have hb : bt s (i : Int) = 32 ↔ (L s)[i]'(by rw [L_len]; exact hlt) = 32 := bt_is s i hlt 32
    by_cases hc : (L s)[i]'(by rw [L_len]; exact hlt) = 32
    · rw [if_pos hc, Nat.add_zero] at h
      simp only [if_pos (hb.2 hc)]
      exact h
    · rw [if_neg hc] at h
      have hb' : ¬ bt s (i : Int) = 32 := fun e => hc (hb.1 e)
      simp only [if_neg hb']
      exact ih (i + 1) (by omega) (by rw [show i + 1 + reach ((L s).drop (i + 1)) = i + (reach ((L s).drop (i + 1)) + 1) by omega]; exact h)
/-- The reference's loop: blanks are left out one by one. -/
theorem rskip (l : List S40) (s : ByteArray) (hs : s.size ≤ 2000) (acc : List Int) (r : List Int × Int × Int) : ∀ (d i : Nat), i + d = s.size → Ev (fun k => canopyref1_Parse.l0 k l s acc ((i + blanks ((L s).drop i) : Nat) : Int)) r → Ev (fun k => canopyref1_Parse.l0 k l s acc (i : Int)) r := by
  intro d
  induction d with
  | zero =>
    intro i hi h
    rw [List.drop_eq_nil_of_le (by rw [L_len]; omega), blanks_nil, Nat.add_zero] at h
    exact h
  | succ d ih =>
    intro i hi h
    have hlt : i < s.size := by omega
    rw [L_drop hlt, blanks_cons] at h
    have hb : bt s (i : Int) = 32 ↔ (L s)[i]'(by rw [L_len]; exact hlt) = 32 := bt_is s i hlt 32
    by_cases hc : (L s)[i]'(by rw [L_len]; exact hlt) = 32
    · rw [if_pos hc] at h
      refine Ev.step (fun k => rfl) ?_
      simp only [canopyref1_Parse.l0, if_pos (show ((i : Int) < (s.size : Int)) by omega), if_pos (show (0 : Int) ≤ (i : Int) by omega), wrap_succ i (by omega), if_pos (hb.2 hc)]
      exact ih (i + 1) (by omega) (by rw [show i + 1 + blanks ((L s).drop (i + 1)) = i + (blanks ((L s).drop (i + 1)) + 1) by omega]; exact h)
    · rw [if_neg hc, Nat.add_zero] at h
      exact h
theorem rparse_l0 (l : List S40) (hl : l.length ≤ 1000) (s : ByteArray) (hs : s.size ≤ 2000) : ∀ (n i : Nat) (acc : List Int), i ≤ s.size → s.size - i < n → acc.length ≤ i →
    Ev (fun k => canopyref1_Parse.l0 k l s acc (i : Int)) (pgo l n ((L s).drop i) i acc) := by
  intro n
  induction n with
  | zero => intro i acc _ h; omega
  | succ n ih =>
    intro i acc hi hn ha
    refine rskip l s hs acc _ (s.size - i) i (by omega) ?_
    have hbl := blanks_le ((L s).drop i)
    rw [List.length_drop, L_len] at hbl
    have hd : ((L s).drop i).drop (blanks ((L s).drop i)) = (L s).drop (i + blanks ((L s).drop i)) := List.drop_drop
    have hbh := behind_blanks ((L s).drop i)
    unfold pgo
    simp only [hd] at hbh ⊢
    have ha1 : i ≤ i + blanks ((L s).drop i) := by omega
    have ha2 : i + blanks ((L s).drop i) ≤ s.size := by omega
    clear hd
    generalize i + blanks ((L s).drop i) = a at *
    refine Ev.step (fun k => rfl) ?_
    simp only [canopyref1_Parse.l0]
    by_cases he : a = s.size
    · simp only [if_neg (show ¬ ((a : Int) < (s.size : Int)) by omega), if_pos (show (L s).drop a = [] from List.drop_eq_nil_of_le (by rw [L_len]; omega))]
      exact ev_all fun _ => rfl
    · have hlt : a < s.size := by omega
      have hne : ¬ (L s).drop a = [] := by rw [L_drop hlt]; exact List.cons_ne_nil _ _
      have hb' : ¬ bt s (a : Int) = 32 := fun e => hbh _ _ (L_drop hlt) ((bt_is s a hlt 32).1 e)
      simp only [if_pos (show ((a : Int) < (s.size : Int)) by omega), if_pos (show (0 : Int) ≤ (a : Int) by omega), if_neg hb', if_neg hne]
      refine rscan l s hs acc (a : Int) _ (s.size - a) a (by omega) ?_
      have hrl := reach_le ((L s).drop a)
      rw [List.length_drop, L_len] at hrl
      have hr1 : 1 ≤ reach ((L s).drop a) := by
        rw [L_drop hlt, reach_cons, if_neg (hbh _ _ (L_drop hlt))]
        omega
      refine Ev.step (fun k => rfl) ?_
      simp only [canopyref1_Parse.j2, if_pos (show (0 : Int) ≤ (a : Int) by omega), if_pos (show (a : Int) ≤ ((a + reach ((L s).drop a) : Nat) : Int) by omega), if_pos (show ((a + reach ((L s).drop a) : Nat) : Int) ≤ (s.size : Int) by omega), Int.toNat_natCast, extract_take]
      have hdr : ((L s).drop a).drop (reach ((L s).drop a)) = (L s).drop (a + reach ((L s).drop a)) := List.drop_drop
      rw [hdr]
      generalize hR : reach ((L s).drop a) = R at *
      generalize hT : ((L s).drop a).take R = T at *
      have hTl : T.length ≤ 2000 := by rw [← hT, List.length_take]; omega
      obtain ⟨rr, h1, h2⟩ := read_ev T (by omega)
      refine Ev.bind h1 ?_
      unfold readIs at h2
      cases htk : tok T with
      | none =>
        rw [htk] at h2
        simp only [h2, Bool.false_eq_true, if_false]
        exact ev_all fun _ => rfl
      | some q =>
        obtain ⟨q, k0⟩ := q
        rw [htk] at h2
        simp only at h2
        subst h2
        simp only [if_true]
        refine Ev.bind (find_ev l hl _ _) ?_
        rw [L_B]
        by_cases hf : fidx l (q, k0) 0 < 0
        · simp only [if_pos hf]
          exact ev_all fun _ => rfl
        · simp only [if_neg hf, if_pos (show acc.length < 17592186044416 by omega)]
          exact ih (a + R) (acc ++ [fidx l (q, k0) 0]) (by omega) (by omega) (by rw [List.length_append, List.length_singleton]; omega)
theorem rparse_ev (l : List S40) (hl : l.length ≤ 1000) (s : ByteArray) : Ev (fun k => canopyref1_Parse.f k l s) (parseOf l s) := by
  unfold canopyref1_Parse.f parseOf
  by_cases h : 2000 < s.size
  · simp only [if_pos h, if_pos (show (s.size : Int) > 2000 by omega)]
    exact ev_all fun _ => rfl
  · simp only [if_neg h, if_neg (show ¬ ((s.size : Int) > 2000) by omega)]
    have := rparse_l0 l hl s (by omega) (s.size + 1) 0 [] (by omega) (by omega) (by simp)
    rwa [List.drop_zero] at this
theorem pgo_len (l : List S40) : ∀ (n : Nat) (bs : List UInt8) (i : Nat) (acc : List Int), (pgo l n bs i acc).1.length ≤ acc.length + bs.length
  | 0, bs, i, acc => by simp [pgo]
  | n + 1, bs, i, acc => by
    unfold pgo
    dsimp only
    split
    · simp
    · rename_i hne
      split
      · simp
      · split
        · simp
        · rename_i q _ _
          have h1 := pgo_len l n ((bs.drop (blanks bs)).drop (reach (bs.drop (blanks bs)))) (i + blanks bs + reach (bs.drop (blanks bs))) (acc ++ [fidx l q 0])
          refine Nat.le_trans h1 ?_
          have hr : 1 ≤ reach (bs.drop (blanks bs)) := by
            cases hc : bs.drop (blanks bs) with
            | nil => exact absurd hc hne
            | cons c t => rw [reach_cons, if_neg (behind_blanks bs c t hc)]; omega
          have hp : 0 < (bs.drop (blanks bs)).length := List.length_pos_iff.2 hne
          rw [List.length_drop] at hp
          simp only [List.length_append, List.length_singleton, List.length_drop]
          omega
theorem parseOf_len (l : List S40) (s : ByteArray) : (parseOf l s).1.length ≤ s.size := by
  unfold parseOf
  split
  · simp
  · have := pgo_len l (s.size + 1) (L s) 0 []
    rw [L_len] at this
    simpa using this
end Go.Proofs.YtiibfkjfanglbaaL
