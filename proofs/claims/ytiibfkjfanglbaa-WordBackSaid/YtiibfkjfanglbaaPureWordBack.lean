/- WordBack holds: any word is written as the reference writes it, and read as it was, more blanks or not; no condition beside the row's own. -/
import Derived.Test.YtiibfkjfanglbaaPx22
import Derived.Test.YtiibfkjfanglbaaWordText
import Derived.Test.YtiibfkjfanglbaaWordKnownTrue
namespace Go.Proofs.Ytiibfkjfanglbaa.Pure
open Go.RowKit Go.Proofs.Ytiibfkjfanglbaa.P Go.Proofs.YtiibfkjfanglbaaW.PrintWords Go.Proofs.YtiibfkjfanglbaaW.PrintLast Go.Proofs.YtiibfkjfanglbaaW.PrintMore Go.Proofs.YtiibfkjfanglbaaL
/-- A text, some of its blanks three. -/
inductive Dup : List UInt8 → List UInt8 → Prop
  | nil : Dup [] []
  | same (c : UInt8) (s t : List UInt8) : Dup s t → Dup (c :: s) (c :: t)
  | three (s t : List UInt8) : Dup s t → Dup (32 :: s) (32 :: 32 :: 32 :: t)
theorem Dup.append {a b c d : List UInt8} (h : Dup a b) (k : Dup c d) : Dup (a ++ c) (b ++ d) := by
  induction h with
  | nil => exact k
  | same x s t _ ih => exact Dup.same x _ _ ih
  | three s t _ ih => exact Dup.three _ _ ih
theorem Dup.head {rest t : List UInt8} (h : Dup rest t) (hr : rest = [] ∨ rest.head? = some 32) : t = [] ∨ t.head? = some 32 := by
  cases h with
  | nil => exact .inl rfl
  | same c s t _ =>
    rcases hr with hr | hr
    · simp at hr
    · exact .inr hr
  | three s t _ => exact .inr rfl
theorem Dup.plain : ∀ (q rest t : List UInt8), (∀ c ∈ q, c ≠ 32) → Dup (q ++ rest) t → ∃ t', t = q ++ t' ∧ Dup rest t'
  | [], rest, t, _, h => ⟨t, rfl, h⟩
  | c :: q, rest, t, hc, h => by
    cases h with
    | same _ _ t h =>
      obtain ⟨t', rfl, h'⟩ := Dup.plain q rest t (fun d hd => hc d (by simp [hd])) h
      exact ⟨t', rfl, h'⟩
    | three _ _ _ => exact absurd rfl (hc 32 (by simp))
theorem Dup.rep : ∀ (m : Nat) (rest t : List UInt8), Dup (List.replicate m 32 ++ rest) t → ∃ m' t', t = List.replicate m' 32 ++ t' ∧ Dup rest t'
  | 0, rest, t, h => ⟨0, t, rfl, h⟩
  | m + 1, rest, t, h => by
    rw [List.replicate_succ, List.cons_append] at h
    cases h with
    | same _ _ t h =>
      obtain ⟨m', t', rfl, h'⟩ := Dup.rep m rest t h
      exact ⟨m' + 1, t', by rw [List.replicate_succ, List.cons_append], h'⟩
    | three _ t h =>
      obtain ⟨m', t', rfl, h'⟩ := Dup.rep m rest t h
      exact ⟨m' + 3, t', by simp [List.replicate_succ], h'⟩
theorem spaced_dup {l : List S40} (hg : goodB l = true) {bs : List UInt8} {w : List Int} (h : Spaced l bs w) : ∀ t, Dup bs t → Spaced l t w := by
  induction h with
  | nil m =>
    intro t ht
    have ht' : Dup (List.replicate m 32 ++ []) t := by rwa [List.append_nil]
    obtain ⟨m', t', rfl, h'⟩ := Dup.rep m [] t ht'
    cases h'
    rw [List.append_nil]
    exact Spaced.nil m'
  | cons m x rest w h0 h1 hr _ ih =>
    intro t ht
    obtain ⟨m', t', rfl, h'⟩ := Dup.rep m _ t ht
    obtain ⟨t'', rfl, h''⟩ := Dup.plain _ rest t' (sgn_ne hg h0 h1) h'
    exact Spaced.cons m' x t'' w h0 h1 (h''.head hr) (ih t'' h'')
theorem spaced_blank {l : List S40} {bs : List UInt8} {w : List Int} (h : Spaced l bs w) : Spaced l (32 :: bs) w := by
  cases h with
  | nil m => exact Spaced.nil (m + 1)
  | cons m x rest w h0 h1 hr hs => exact Spaced.cons (m + 1) x rest w h0 h1 hr hs
theorem spaced_end {l : List S40} {bs : List UInt8} {w : List Int} (h : Spaced l bs w) : Spaced l (bs ++ [32]) w := by
  induction h with
  | nil m =>
    have e : List.replicate m (32 : UInt8) ++ [32] = List.replicate (m + 1) 32 := by rw [List.replicate_succ']
    rw [e]
    exact Spaced.nil (m + 1)
  | cons m x rest w h0 h1 hr _ ih =>
    rw [List.append_assoc, List.append_assoc]
    refine Spaced.cons m x (rest ++ [32]) w h0 h1 (.inr ?_) ih
    rcases hr with rfl | hr
    · rfl
    · cases rest with
      | nil => rfl
      | cons c r => exact hr
theorem dup_len {a b : List UInt8} (h : Dup a b) : b.length ≤ a.length + 2 * a.count 32 := by
  induction h with
  | nil => simp
  | same c s t _ ih =>
    have : s.count 32 ≤ (c :: s).count 32 := by rw [List.count_cons]; omega
    simp only [List.length_cons]
    omega
  | three s t _ ih =>
    rw [List.count_cons_self]
    simp only [List.length_cons]
    omega
theorem count_sgn {l : List S40} (hg : goodB l = true) {x : Int} (h0 : 0 ≤ x) (h1 : x < (l.length : Int)) : (sgn l x).count 32 = 0 := List.count_eq_zero.2 fun h => sgn_ne hg h0 h1 32 h rfl
theorem count_tail {l : List S40} (hg : goodB l = true) : ∀ (w : List Int), Fit l w → (Lib.joinTail [32] (w.map (sgn l))).count 32 = w.length
  | [], _ => rfl
  | x :: w, hf => by
    have e : Lib.joinTail [32] ((x :: w).map (sgn l)) = 32 :: (sgn l x ++ Lib.joinTail [32] (w.map (sgn l))) := rfl
    rw [e, List.count_cons_self, List.count_append, count_sgn hg (hf x (by simp)).1 (hf x (by simp)).2, count_tail hg w (fun y hy => hf y (by simp [hy])), List.length_cons]
    omega
theorem count_text {l : List S40} (hg : goodB l = true) (w : List Int) (hf : Fit l w) : (textL l w).count 32 ≤ w.length := by
  unfold textL
  cases w with
  | nil => exact Nat.le_refl _
  | cons x w =>
    rw [List.map_cons, Lib.join_cons, List.count_append, count_sgn hg (hf x (by simp)).1 (hf x (by simp)).2, count_tail hg w (fun y hy => hf y (by simp [hy])), List.length_cons]
    omega
theorem one_byte (s : ByteArray) (i : Nat) (h : i < s.size) : L (s.extract i (i + 1)) = [(L s)[i]'(by rw [L_len]; exact h)] := by
  rw [L_extract, L_drop h, show i + 1 - i = 1 by omega]
  rfl
theorem take_snoc (s : ByteArray) (i : Nat) (h : i < s.size) : (L s).take (i + 1) = (L s).take i ++ [(L s)[i]'(by rw [L_len]; exact h)] := by
  rw [List.take_succ_eq_append_getElem (by rw [L_len]; exact h)]
theorem back_l0 (l : List S40) (hg : goodB l = true) (w : List Int) (hf : Fit l w) (hw : w.length ≤ 60) (g : Int) (s : ByteArray) (hs : s = B (textL l w)) : ∀ (d i : Nat) (t : ByteArray), i + d = s.size → t.size ≤ 3 * i → Dup ((L s).take i) (L t) →
    Ev (fun k => canopylaw1_WordBack.l0 k g l w s w 0 0 t (i : Int)) true := by
  have hsz : s.size ≤ 720 := by rw [hs, B_size]; have := textL_len hg hf; omega
  have hlen := good_len hg
  intro d
  induction d with
  | zero =>
    intro i t hi ht hd
    refine Ev.step (fun k => rfl) ?_
    have e2 : ((⟨#[32, 32]⟩ : ByteArray) ++ t).size = 2 + t.size := by rw [ByteArray.size_append]; rfl
    simp only [canopylaw1_WordBack.l0, if_neg (show ¬ ((i : Int) < (s.size : Int)) by omega), if_pos (show 2 + t.size ≤ 9223372036854775807 by omega), e2, if_pos (show 2 + t.size + 1 ≤ 9223372036854775807 by omega)]
    rw [List.take_of_length_le (by rw [L_len]; omega), hs, L_B] at hd
    have hdl := dup_len hd
    have hct := count_text hg w hf
    have htl := textL_len hg hf
    rw [L_len] at hdl
    have hsp := spaced_blank (spaced_blank (spaced_end (spaced_dup hg (spaced_text w hf) _ hd)))
    have hu : parseOf l ((⟨#[32, 32]⟩ : ByteArray) ++ t ++ (⟨#[32]⟩ : ByteArray)) = (w, 0, 0) := by
      have e : (⟨#[32, 32]⟩ : ByteArray) ++ t ++ (⟨#[32]⟩ : ByteArray) = B (32 :: 32 :: (L t ++ [32])) := L_inj (by rw [L_append, L_append, L_B]; rfl)
      rw [e]
      exact parse_spaced hg hsp (by simp only [List.length_cons, List.length_append, L_len, List.length_nil]; omega)
    have hp := pparse_ev l (by omega) ((⟨#[32, 32]⟩ : ByteArray) ++ t ++ (⟨#[32]⟩ : ByteArray))
    rw [hu] at hp
    refine Ev.bind hp ?_
    refine Ev.bind (rtext_ev l hg w hf (by omega)) ?_
    rw [← hs]
    simp only [if_true]
    refine Ev.bind (ints_ev w w (by omega)) ?_
    simp only [decide_true, if_true]
    refine Ev.bind (ints_ev w w (by omega)) ?_
    simp only [decide_true]
    exact ev_all fun _ => rfl
  | succ d ih =>
    intro i t hi ht hd
    have hlt : i < s.size := by omega
    have hx1 : (s.extract i (i + 1)).size = 1 := by rw [← L_len, one_byte s i hlt]; rfl
    refine Ev.step (fun k => rfl) ?_
    simp only [canopylaw1_WordBack.l0, if_pos (show ((i : Int) < (s.size : Int)) by omega), if_pos (show (0 : Int) ≤ (i : Int) by omega), wrap_succ i (by omega), if_pos (show (i : Int) ≤ ((i + 1 : Nat) : Int) by omega), if_pos (show ((i + 1 : Nat) : Int) ≤ (s.size : Int) by omega), Int.toNat_natCast, hx1, if_pos (show t.size + 1 ≤ 9223372036854775807 by omega)]
    have hsz1 : (t ++ s.extract i (i + 1)).size = t.size + 1 := by rw [ByteArray.size_append, hx1]
    have same : Ev (fun k => canopylaw1_WordBack.l0 k g l w s w 0 0 (t ++ s.extract i (i + 1)) ((i + 1 : Nat) : Int)) true := by
      refine ih (i + 1) _ (by omega) (by rw [hsz1]; omega) ?_
      rw [take_snoc s i hlt, L_append, one_byte s i hlt]
      exact hd.append (Dup.same _ _ _ Dup.nil)
    by_cases hc : bt s (i : Int) = 32
    · have hc' : (L s)[i]'(by rw [L_len]; exact hlt) = 32 := (bt_is s i hlt 32).1 hc
      simp only [if_pos hc, within_eq _ 3 (by omega) (by omega), Option.bind_some]
      by_cases h3 : wrap64 ((i : Int) + g) % 3 = 0
      · simp only [if_pos h3, hsz1, if_pos (show t.size + 1 + 2 ≤ 9223372036854775807 by omega)]
        refine ih (i + 1) _ (by omega) (by rw [ByteArray.size_append, hsz1]; show t.size + 1 + 2 ≤ _; omega) ?_
        rw [take_snoc s i hlt, L_append, L_append, one_byte s i hlt, hc', List.append_assoc]
        exact hd.append (Dup.three _ _ Dup.nil)
      · simp only [if_neg h3]
        exact same
    · simp only [if_neg hc]
      exact same
theorem WordBack : canopylaw1_WordBack.Pure := by
  intro n ns g _ _ _ _ _
  obtain ⟨l, hl, hg⟩ := syms_good n ns
  have hlen := good_len hg
  have hf := wordOf_fit l hlen.1 ns 60
  have hw := wordOf_len l ns 60
  refine Ev.rounds (r := true) ?_
  unfold canopylaw1_WordBack.f
  refine Ev.bind known_ev ?_
  simp only [if_true, hl, Option.bind_some]
  refine Ev.bind (word_ev l hlen.1 (by omega) ns 60 (by omega)) ?_
  generalize wordOf l ns 60 = w at *
  refine Ev.bind (ptext_ev l hg w hf (by omega)) ?_
  have hp := pparse_ev l (by omega) (B (textL l w))
  rw [parse_spaced hg (spaced_text w hf) (by have := textL_len hg hf; omega)] at hp
  refine Ev.bind hp ?_
  exact back_l0 l hg w hf hw g _ rfl (B (textL l w)).size 0 (⟨#[]⟩ : ByteArray) (by omega) (by show 0 ≤ _; omega) (by rw [List.take_zero]; exact Dup.nil)
end Go.Proofs.Ytiibfkjfanglbaa.Pure
