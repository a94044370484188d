/- A word as a text, and how such a text is read, more blanks or not. -/
import Derived.Test.YtiibfkjfanglbaaPx4
import Derived.Test.YtiibfkjfanglbaaPx5
import Derived.Test.YtiibfkjfanglbaaPx19
import Derived.Test.YtiibfkjfanglbaaPx20
import Derived.Test.YtiibfkjfanglbaaWordParse3
import Derived.Test.YtiibfkjfanglbaaWordMatch
namespace Go.Proofs.YtiibfkjfanglbaaL
open Go.RowKit Go.Proofs.Ytiibfkjfanglbaa.P Go.Proofs.YtiibfkjfanglbaaW.PrintWords Go.Proofs.YtiibfkjfanglbaaW.PrintLast Go.Proofs.YtiibfkjfanglbaaW.PrintMore

def signL (y : S40) : List UInt8 := if y.f1 = 1 then 60 :: (L y.f0 ++ [62]) else if y.f1 = 2 then 60 :: 47 :: (L y.f0 ++ [62]) else L y.f0
def sgn (l : List S40) (x : Int) : List UInt8 := signL (rd_T40 l x)
def textL (l : List S40) (w : List Int) : List UInt8 := Lib.join (w.map (sgn l)) [32]
theorem L_lit1 : L (⟨#[60]⟩ : ByteArray) = [60] := rfl
theorem ptext_one (y : S40) (h : y.f0.size ≤ 1000) : word_text.f y.f0 y.f1 = some (B (signL y)) := by
  unfold word_text.f signL
  by_cases h1 : y.f1 = 1
  · rw [if_pos h1, if_pos (by omega), if_pos (by rw [ByteArray.size_append]; show 1 + y.f0.size + 1 ≤ _; omega), if_pos h1]
    exact congrArg some (L_inj (by rw [L_append, L_append, L_B]; rfl))
  · rw [if_neg h1, if_neg h1]
    by_cases h2 : y.f1 = 2
    · rw [if_pos h2, if_pos (by omega), if_pos (by rw [ByteArray.size_append]; show 2 + y.f0.size + 1 ≤ _; omega), if_pos h2]
      exact congrArg some (L_inj (by rw [L_append, L_append, L_B]; rfl))
    · rw [if_neg h2, if_neg h2, B_L]
theorem rtext_one (y : S40) (h : y.f0.size ≤ 1000) : canopyref1_Sign.f y.f0 y.f1 = some (B (signL y)) := ptext_one y h
theorem good_name {l : List S40} (hg : goodB l = true) {x : Int} (h0 : 0 ≤ x) (h1 : x < (l.length : Int)) : nameL (L (rd_T40 l x).f0) = true ∧ (rd_T40 l x).f0.size ≤ 8 := by
  obtain ⟨n, rfl⟩ := Int.eq_ofNat_of_zero_le h0
  have hn : n < l.length := by omega
  rw [rdT_get hn]
  have h := (good_at hg (List.getElem_mem hn)).1
  refine ⟨by rw [← nameB_L]; exact h, ?_⟩
  simp only [nameB, Bool.and_eq_true, decide_eq_true_eq] at h
  exact h.1.2
theorem sgn_len {l : List S40} (hg : goodB l = true) {x : Int} (h0 : 0 ≤ x) (h1 : x < (l.length : Int)) : (sgn l x).length ≤ 11 := by
  have h := (good_name hg h0 h1).2
  rw [← L_len] at h
  unfold sgn signL
  split
  · simp; omega
  · split
    · simp; omega
    · omega
theorem tail_len (n : Nat) : ∀ (r : List (List UInt8)), (∀ x ∈ r, x.length ≤ 11) → (Lib.joinTail [32] r).length ≤ 12 * r.length
  | [], _ => by simp [Lib.joinTail]
  | x :: r, h => by
    have h1 := tail_len n r (fun y hy => h y (by simp [hy]))
    have h2 := h x (by simp)
    have e : Lib.joinTail [32] (x :: r) = 32 :: x ++ Lib.joinTail [32] r := by simp [Lib.joinTail]
    rw [e]
    simp
    omega
theorem join_len (r : List (List UInt8)) (h : ∀ x ∈ r, x.length ≤ 11) : (Lib.join r [32]).length ≤ 12 * r.length := by
  cases r with
  | nil => simp [Lib.join_nil]
  | cons x r =>
    rw [Lib.join_cons]
    have h1 := tail_len 0 r (fun y hy => h y (by simp [hy]))
    have h2 := h x (by simp)
    simp
    omega
theorem map_sgn_len {l : List S40} (hg : goodB l = true) {w : List Int} (hf : Fit l w) : ∀ x ∈ w.map (sgn l), x.length ≤ 11 := by
  intro x hx
  obtain ⟨y, hy, rfl⟩ := List.mem_map.1 hx
  exact sgn_len hg (hf y hy).1 (hf y hy).2
theorem textL_len {l : List S40} (hg : goodB l = true) {w : List Int} (hf : Fit l w) : (textL l w).length ≤ 12 * w.length := by
  have := join_len _ (map_sgn_len hg hf)
  rwa [List.length_map] at this
theorem ptext_l0 (l : List S40) (hg : goodB l = true) (w : List Int) (hf : Fit l w) (hw : w.length ≤ 10000) : ∀ (d i : Nat) (acc : List ByteArray), i + d = w.length → acc.length = i → (∀ x ∈ acc.map (·.data.toList), x.length ≤ 11) →
    Ev (fun k => word_Text.l0 k l acc w (w.length : Int) (i : Int)) (B (Lib.join (acc.map (·.data.toList) ++ (w.drop i).map (sgn l)) [32])) := by
  intro d
  induction d with
  | zero =>
    intro i acc hi ha hx
    have hj := join_len _ hx
    rw [List.length_map] at hj
    refine Ev.step (fun k => rfl) ?_
    simp only [word_Text.l0, if_neg (show ¬ ((i : Int) < (w.length : Int)) by omega)]
    rw [List.drop_eq_nil_of_le (by omega), List.map_nil, List.append_nil]
    have e : strings_Join.f acc (⟨#[32]⟩ : ByteArray) = some (B (Lib.join (acc.map (·.data.toList)) [32])) := by
      unfold strings_Join.f
      have e2 : (⟨#[32]⟩ : ByteArray).data.toList = [32] := rfl
      rw [if_pos (by omega), e2, if_pos (by omega)]
      rfl
    simp only [e, Option.bind_some]
    exact ev_all fun _ => rfl
  | succ d ih =>
    intro i acc hi ha hx
    have hlt : i < w.length := by omega
    have hxx := hf _ (List.getElem_mem hlt)
    have e1 : rd w (i : Int) = w[i] := rd_get hlt
    have hn := (good_name hg hxx.1 hxx.2).2
    have hp := ptext_one (rd_T40 l w[i]) (by omega)
    refine Ev.step (fun k => rfl) ?_
    simp only [word_Text.l0, if_pos (show ((i : Int) < (w.length : Int)) by omega), if_pos (show (0 : Int) ≤ (i : Int) by omega), e1, if_pos (show w[i] ≥ 0 from hxx.1), if_pos hxx.2, hp, Option.bind_some, if_pos (show acc.length < 8796093022208 by omega), wrap_succ i (by omega)]
    have := ih (i + 1) (acc ++ [B (signL (rd_T40 l w[i]))]) (by omega) (by simp; omega) (by
      intro y hy
      rw [List.map_append, List.mem_append] at hy
      rcases hy with hy | hy
      · exact hx y hy
      · rw [List.map_singleton, List.mem_singleton] at hy
        rw [hy]
        exact sgn_len hg hxx.1 hxx.2)
    rw [List.drop_eq_getElem_cons hlt]
    rw [List.map_append, List.append_assoc] at this
    exact this
theorem ptext_ev (l : List S40) (hg : goodB l = true) (w : List Int) (hf : Fit l w) (hw : w.length ≤ 10000) : Ev (fun k => word_Text.f k l w) (B (textL l w)) :=
  ptext_l0 l hg w hf hw w.length 0 [] (by omega) rfl (by simp)
theorem rtext_l0 (l : List S40) (hg : goodB l = true) (w : List Int) (hf : Fit l w) (hw : w.length ≤ 10000) : ∀ (d i : Nat) (s : ByteArray), i + d = w.length → 0 < i → s.size ≤ 12 * i →
    Ev (fun k => canopyref1_Text.l0 k l w s (i : Int)) (B (L s ++ Lib.joinTail [32] ((w.drop i).map (sgn l)))) := by
  intro d
  induction d with
  | zero =>
    intro i s hi h0 hs
    refine Ev.step (fun k => rfl) ?_
    simp only [canopyref1_Text.l0, if_neg (show ¬ ((i : Int) < (w.length : Int)) by omega)]
    rw [List.drop_eq_nil_of_le (by omega)]
    exact ev_all fun _ => by simp [Lib.joinTail, B_L]
  | succ d ih =>
    intro i s hi h0 hs
    have hlt : i < w.length := by omega
    have hxx := hf _ (List.getElem_mem hlt)
    have e1 : rd w (i : Int) = w[i] := rd_get hlt
    have hn := (good_name hg hxx.1 hxx.2).2
    have hp := rtext_one (rd_T40 l w[i]) (by omega)
    have hsl := sgn_len hg hxx.1 hxx.2
    have hs2 : (s ++ (⟨#[32]⟩ : ByteArray)).size = s.size + 1 := by rw [ByteArray.size_append]; rfl
    have hb : (B (signL (rd_T40 l w[i]))).size ≤ 11 := by rw [B_size]; exact hsl
    refine Ev.step (fun k => rfl) ?_
    simp only [canopyref1_Text.l0, if_pos (show ((i : Int) < (w.length : Int)) by omega), if_pos (show (i : Int) > 0 by omega), if_pos (show s.size + 1 ≤ 9223372036854775807 by omega), if_pos (show (0 : Int) ≤ (i : Int) by omega), e1, if_pos hxx.1, if_pos hxx.2, hp, Option.bind_some, hs2, if_pos (show s.size + 1 + (B (signL (rd_T40 l w[i]))).size ≤ 9223372036854775807 by omega), wrap_succ i (by omega)]
    have := ih (i + 1) (s ++ (⟨#[32]⟩ : ByteArray) ++ B (signL (rd_T40 l w[i]))) (by omega) (by omega) (by rw [ByteArray.size_append, hs2]; omega)
    rw [List.drop_eq_getElem_cons hlt]
    rw [L_append, L_append, L_B] at this
    have e2 : L (⟨#[32]⟩ : ByteArray) = [32] := rfl
    rw [e2] at this
    have e3 : Lib.joinTail [32] ((w[i] :: w.drop (i + 1)).map (sgn l)) = [32] ++ signL (rd_T40 l w[i]) ++ Lib.joinTail [32] ((w.drop (i + 1)).map (sgn l)) := rfl
    rw [e3]
    simp only [List.append_assoc] at this ⊢
    exact this
theorem rtext_ev (l : List S40) (hg : goodB l = true) (w : List Int) (hf : Fit l w) (hw : w.length ≤ 10000) : Ev (fun k => canopyref1_Text.f k l w) (B (textL l w)) := by
  unfold canopyref1_Text.f
  cases w with
  | nil =>
    refine Ev.step (fun k => rfl) ?_
    simp only [canopyref1_Text.l0, List.length_nil, if_neg (show ¬ ((0 : Int) < ((0 : Nat) : Int)) by omega)]
    exact ev_all fun _ => rfl
  | cons x w =>
    have hxx := hf x (by simp)
    have e1 : rd (x :: w) 0 = x := rfl
    have hn := (good_name hg hxx.1 hxx.2).2
    have hp := rtext_one (rd_T40 l x) (by omega)
    have hsl := sgn_len hg hxx.1 hxx.2
    have hb : (B (signL (rd_T40 l x))).size ≤ 11 := by rw [B_size]; exact hsl
    have hem : ((⟨#[]⟩ : ByteArray)).size = 0 := rfl
    refine Ev.step (fun k => rfl) ?_
    simp only [canopyref1_Text.l0, if_pos (show ((0 : Int) < ((x :: w).length : Int)) by rw [List.length_cons]; omega), if_neg (show ¬ ((0 : Int) > 0) by omega), if_pos (show (0 : Int) ≤ 0 by omega), e1, if_pos hxx.1, if_pos hxx.2, hp, Option.bind_some, hem, if_pos (show 0 + (B (signL (rd_T40 l x))).size ≤ 9223372036854775807 by omega), show wrap64 ((0 : Int) + 1) = ((1 : Nat) : Int) by unfold wrap64; omega]
    have := rtext_l0 l hg (x :: w) hf hw w.length 1 ((⟨#[]⟩ : ByteArray) ++ B (signL (rd_T40 l x))) (by simp; omega) (by omega) (by rw [ByteArray.size_append, hem]; omega)
    rw [L_append, L_B] at this
    unfold textL
    rw [List.map_cons, Lib.join_cons]
    exact this

/-! a text with blanks between -/
inductive Spaced (l : List S40) : List UInt8 → List Int → Prop
  | nil (m : Nat) : Spaced l (List.replicate m 32) []
  | cons (m : Nat) (x : Int) (rest : List UInt8) (w : List Int) : 0 ≤ x → x < (l.length : Int) → (rest = [] ∨ rest.head? = some 32) → Spaced l rest w → Spaced l (List.replicate m 32 ++ (sgn l x ++ rest)) (x :: w)
theorem blanks_rep (m : Nat) (t : List UInt8) (h : t.head? ≠ some 32) : blanks (List.replicate m 32 ++ t) = m := by
  induction m with
  | zero =>
    cases t with
    | nil => rfl
    | cons c t =>
      have : c ≠ 32 := fun e => h (by rw [e]; rfl)
      rw [List.replicate_zero, List.nil_append, blanks_cons, if_neg this]
  | succ m ih => rw [List.replicate_succ, List.cons_append, blanks_cons, if_pos rfl, ih]
theorem reach_app : ∀ (t rest : List UInt8), (∀ c ∈ t, c ≠ 32) → (rest = [] ∨ rest.head? = some 32) → reach (t ++ rest) = t.length
  | [], rest, _, h => by
    rcases h with rfl | h
    · rfl
    · cases rest with
      | nil => simp at h
      | cons c r =>
        have : c = 32 := by simpa using h
        rw [List.nil_append, reach_cons, if_pos this]
        rfl
  | c :: t, rest, hc, h => by
    rw [List.cons_append, reach_cons, if_neg (hc c (by simp)), reach_app t rest (fun d hd => hc d (by simp [hd])) h, List.length_cons]
theorem letter_all {q : List UInt8} (h : nameL q = true) : ∀ c ∈ q, letter c = true := by
  simp only [nameL, Bool.and_eq_true, List.all_eq_true] at h
  exact h.2
theorem letter_ne {c : UInt8} (h : letter c = true) (d : UInt8) (hd : d.toNat < 97) : c ≠ d := by
  intro e
  subst e
  simp only [letter, Bool.and_eq_true, decide_eq_true_eq] at h
  omega
theorem sgn_ne {l : List S40} (hg : goodB l = true) {x : Int} (h0 : 0 ≤ x) (h1 : x < (l.length : Int)) : ∀ c ∈ sgn l x, c ≠ 32 := by
  have hn := letter_all (good_name hg h0 h1).1
  intro c hc
  unfold sgn signL at hc
  have key : c ∈ L (rd_T40 l x).f0 → c ≠ 32 := fun h => letter_ne (hn c h) 32 (by decide)
  split at hc
  · simp only [List.mem_cons, List.mem_append, List.not_mem_nil, or_false] at hc
    rcases hc with rfl | hc | rfl
    · decide
    · exact key hc
    · decide
  · split at hc
    · simp only [List.mem_cons, List.mem_append, List.not_mem_nil, or_false] at hc
      rcases hc with rfl | rfl | hc | rfl
      · decide
      · decide
      · exact key hc
      · decide
    · exact key hc
theorem sgn_head {l : List S40} (hg : goodB l = true) {x : Int} (h0 : 0 ≤ x) (h1 : x < (l.length : Int)) : ∃ c t, sgn l x = c :: t ∧ c ≠ 32 := by
  have hne := sgn_ne hg h0 h1
  cases hs : sgn l x with
  | nil =>
    exfalso
    have hn := (good_name hg h0 h1).1
    unfold sgn signL at hs
    split at hs
    · simp at hs
    · split at hs
      · simp at hs
      · rw [hs] at hn
        simp [nameL] at hn
  | cons c t => exact ⟨c, t, rfl, hne c (by rw [hs]; simp)⟩
theorem tok_name {q : List UInt8} (h : nameL q = true) : tok q = some (q, 3) := by
  cases q with
  | nil => simp [nameL] at h
  | cons c r => rw [tok_other (letter_ne (letter_all h c (by simp)) 60 (by decide)), if_pos h]
theorem tok_sgn {l : List S40} (hg : goodB l = true) {x : Int} (h0 : 0 ≤ x) (h1 : x < (l.length : Int)) : tok (sgn l x) = some (key (rd_T40 l x)) := by
  have hn := (good_name hg h0 h1).1
  have hk := kd_kind hg h0 h1
  unfold kd at hk
  unfold sgn signL key
  show _ = some (L (rd_T40 l x).f0, _)
  rcases hk with hk | hk | hk
  · rw [if_pos hk, tok_lt, if_pos (by simp), List.dropLast_concat, hk]
    cases hq : L (rd_T40 l x).f0 with
    | nil => rw [hq] at hn; simp [nameL] at hn
    | cons c r =>
      rw [hq] at hn
      rw [tokIn_other (letter_ne (letter_all hn c (by simp)) 47 (by decide)), if_pos hn]
  · rw [if_neg (by omega), if_pos hk, tok_lt, hk]
    have e1 : (47 :: (L (rd_T40 l x).f0 ++ [62])).getLast? = some 62 := by
      rw [← List.cons_append, List.getLast?_concat]
    have e2 : (47 :: (L (rd_T40 l x).f0 ++ [62])).dropLast = 47 :: L (rd_T40 l x).f0 := by
      rw [← List.cons_append, List.dropLast_concat]
    rw [if_pos e1, e2, tokIn_sl, if_pos hn]
  · rw [if_neg (by omega), if_neg (by omega), tok_name hn, hk]
theorem fidx_at : ∀ (l : List S40), distinct (l.map key) = true → ∀ (n : Nat) (h : n < l.length) (i : Nat), fidx l (key l[n]) i = ((i + n : Nat) : Int)
  | [], _, n, h, i => by simp at h
  | x :: xs, hd, n, h, i => by
    cases n with
    | zero => rw [fidx]; exact if_pos rfl
    | succ n =>
      have hd2 : distinct (xs.map key) = true := by
        rw [List.map_cons, distinct, Bool.and_eq_true] at hd
        exact hd.2
      have hne : key x ≠ key (xs[n]'(by simpa using h)) := fun e => by
        have := distinct_inj _ hd 0 (n + 1) (by simp) (by simpa using h) (by simpa using e)
        omega
      rw [List.getElem_cons_succ, fidx, if_neg hne, fidx_at xs hd2 n (by simpa using h) (i + 1)]
      congr 1
      omega
theorem good_distinct {l : List S40} (hg : goodB l = true) : distinct (l.map key) = true := by
  simp only [goodB, Bool.and_eq_true] at hg
  exact hg.2
theorem fidx_sgn {l : List S40} (hg : goodB l = true) {x : Int} (h0 : 0 ≤ x) (h1 : x < (l.length : Int)) : fidx l (key (rd_T40 l x)) 0 = x := by
  obtain ⟨n, rfl⟩ := Int.eq_ofNat_of_zero_le h0
  have hn : n < l.length := by omega
  rw [rdT_get hn, fidx_at l (good_distinct hg) n hn 0, Nat.zero_add]
theorem spaced_pgo {l : List S40} (hg : goodB l = true) {bs : List UInt8} {w : List Int} (h : Spaced l bs w) : ∀ (n i : Nat) (acc : List Int), bs.length < n → pgo l n bs i acc = (acc ++ w, 0, 0) := by
  induction h with
  | nil m =>
    intro n i acc hn
    obtain ⟨n, rfl⟩ : ∃ m, n = m + 1 := ⟨n - 1, by omega⟩
    unfold pgo
    have e := blanks_rep m [] (by simp)
    rw [List.append_nil] at e
    rw [e, List.drop_eq_nil_of_le (by simp), if_pos rfl, List.append_nil]
  | cons m x rest w h0 h1 hr _ ih =>
    intro n i acc hn
    obtain ⟨n, rfl⟩ : ∃ m, n = m + 1 := ⟨n - 1, by omega⟩
    obtain ⟨c, t, hs, hc⟩ := sgn_head hg h0 h1
    have e1 : blanks (List.replicate m 32 ++ (sgn l x ++ rest)) = m := blanks_rep m _ (by rw [hs]; simpa using hc)
    have e2 : (List.replicate m 32 ++ (sgn l x ++ rest)).drop m = sgn l x ++ rest := by
      have : m = (List.replicate m (32 : UInt8)).length := by simp
      conv => lhs; arg 1; rw [this]
      rw [List.drop_left]
    have e3 : reach (sgn l x ++ rest) = (sgn l x).length := reach_app _ _ (sgn_ne hg h0 h1) hr
    unfold pgo
    simp only [e1, e2, e3, List.take_left, List.drop_left, tok_sgn hg h0 h1, fidx_sgn hg h0 h1]
    rw [if_neg (by rw [hs]; simp), if_neg (by omega), ih n _ _ (by
      rw [List.length_append, List.length_append, hs] at hn
      simp at hn
      omega), List.append_assoc]
    rfl
theorem spaced_tail {l : List S40} : ∀ (w : List Int), Fit l w → Spaced l (Lib.joinTail [32] (w.map (sgn l))) w ∧ (Lib.joinTail [32] (w.map (sgn l)) = [] ∨ (Lib.joinTail [32] (w.map (sgn l))).head? = some 32)
  | [], _ => ⟨Spaced.nil 0, .inl (by simp [Lib.joinTail])⟩
  | x :: w, hf => by
    obtain ⟨h1, h2⟩ := spaced_tail w (fun y hy => hf y (by simp [hy]))
    have e : Lib.joinTail [32] ((x :: w).map (sgn l)) = List.replicate 1 32 ++ (sgn l x ++ Lib.joinTail [32] (w.map (sgn l))) := by simp [Lib.joinTail]
    rw [e]
    exact ⟨Spaced.cons 1 x _ w (hf x (by simp)).1 (hf x (by simp)).2 h2 h1, .inr (by simp)⟩
theorem spaced_text {l : List S40} (w : List Int) (hf : Fit l w) : Spaced l (textL l w) w := by
  unfold textL
  cases w with
  | nil => exact Spaced.nil 0
  | cons x w =>
    rw [List.map_cons, Lib.join_cons]
    obtain ⟨h1, h2⟩ := spaced_tail (l := l) w (fun y hy => hf y (by simp [hy]))
    exact Spaced.cons 0 x _ w (hf x (by simp)).1 (hf x (by simp)).2 h2 h1
theorem parse_spaced {l : List S40} (hg : goodB l = true) {bs : List UInt8} {w : List Int} (h : Spaced l bs w) (hb : bs.length ≤ 2000) : parseOf l (B bs) = (w, 0, 0) := by
  unfold parseOf
  rw [if_neg (by rw [B_size]; omega), L_B, spaced_pgo hg h _ _ _ (by rw [B_size]; omega)]
  rfl
end Go.Proofs.YtiibfkjfanglbaaL
