/- ExprBack holds: any expression that is drawn is written as the reference writes it, and read as it was; no condition beside the row's own. -/
import Derived.Test.YtodbnnfiadcbaaaC98314929e4
import Derived.Test.YtodbnnfiadcbaaaRows
import Derived.WalkKit
import Derived.ProofKit
import Derived.OpenShut
import Derived.ShutString
import Derived.ChangeOld
import Derived.Below
import Derived.SizedLaws
namespace Go.Proofs.YtodbnnfiadcbaaaL
open Go.RowKit Go.Proofs.Ytodbnnfiadcbaaa.P Go.Proofs.YtodbnnfiadcbaaaW.PrintWords Go.Proofs.YtodbnnfiadcbaaaW.PrintLast Go.Proofs.YtodbnnfiadcbaaaW.PrintMore
set_option linter.unusedSimpArgs false
set_option linter.unusedVariables false
def tkn (s : List UInt8) (q : Nat) : Tk := (tokAt (s.drop q)).1
theorem begins_other {t : Tk} (h : t.begins = true) (c : UInt8) (hc : c = 42 ∨ c = 124 ∨ c = 41) : t.isOne c = false := by
 cases t with
 | one b =>
  simp only [Tk.begins, Bool.or_eq_true, beq_iff_eq] at h
  simp only [Tk.isOne, beq_eq_false_iff_ne]
  rintro rfl
  rcases hc with rfl | rfl | rfl <;> revert h <;> decide
 | _ => rfl
structure StopC (s : List UInt8) (q : Nat) : Prop where
 star : (tkn s (nx s q)).isOne 42 = false
 begins : (tkn s (nx s q)).begins = false
structure Stop (s : List UInt8) (q : Nat) : Prop extends StopC s q where
 bar : (tkn s (nx s q)).isOne 124 = false
section
variable {l : List S56} {s : List UInt8}
theorem stars_stop {x : S28} {g : Nat} (h : (tkn s g).isOne 42 = false) : Ev (fun n => aStars l s n x g) (.ok x g) := by
 refine Ev.step (fun k => rfl) ?_
 refine Ev.congr (f := fun _ => some (.ok x g)) (fun k => ?_) (Ev.now _)
 rw [aStars, if_neg]
 have h : (tokAt (s.drop g)).1.isOne 42 = false := h
 rw [h]
 decide
theorem cats_stop {d : Nat} {acc : List S28} {g : Nat} (h : (tkn s g).begins = false) : Ev (fun n => aCats l s n d acc g) (.ok (severalT 5 acc) g) := by
 refine Ev.step (fun k => rfl) ?_
 refine Ev.congr (f := fun _ => some (.ok (severalT 5 acc) g)) (fun k => ?_) (Ev.now _)
 rw [aCats, if_neg]
 have h : (tokAt (s.drop g)).1.begins = false := h
 rw [h]
 decide
theorem ors_stop {d : Nat} {acc : List S28} {g : Nat} (h : (tkn s g).isOne 124 = false) : Ev (fun n => aOrs l s n d acc g) (.ok (severalT 6 acc) g) := by
 refine Ev.step (fun k => rfl) ?_
 refine Ev.congr (f := fun _ => some (.ok (severalT 6 acc) g)) (fun k => ?_) (Ev.now _)
 rw [aOrs, if_neg]
 have h : (tokAt (s.drop g)).1.isOne 124 = false := h
 rw [h]
 decide
theorem rep_cat {d f g : Nat} {e : S28} (h : Ev (fun n => aRep l s n d f) (.ok e g)) (hb : (tkn s g).begins = false) : Ev (fun n => aCat l s n d f) (.ok e g) := by
 refine Ev.step (fun k => rfl) ?_
 refine Ev.congr (fun k => by rw [aCat]) ?_
 exact Rs.and_ev h (cats_stop hb)
theorem cat_or {d f g : Nat} {e : S28} (h : Ev (fun n => aCat l s n d f) (.ok e g)) (hb : (tkn s g).isOne 124 = false) : Ev (fun n => aOr l s n d f) (.ok e g) := by
 refine Ev.step (fun k => rfl) ?_
 refine Ev.congr (fun k => by rw [aOr]) ?_
 exact Rs.and_ev h (ors_stop hb)
def RepOk (l : List S56) (s : List UInt8) (d : Nat) (e : S28) : Prop := ∀ f r, s.drop f = held true e.f0 (textT l e) ++ r → SepR r → ∀ R, Ev (fun n => aStars l s n e (nx s (f + (held true e.f0 (textT l e)).length))) R → Ev (fun n => aRep l s n d f) R
def CatOk (l : List S56) (s : List UInt8) (d : Nat) (e : S28) : Prop := ∀ f r, s.drop f = held false e.f0 (textT l e) ++ r → SepR r → StopC s (f + (held false e.f0 (textT l e)).length) → Ev (fun n => aCat l s n d f) (.ok e (nx s (f + (held false e.f0 (textT l e)).length)))
def OrOk (l : List S56) (s : List UInt8) (d : Nat) (e : S28) : Prop := ∀ f r, s.drop f = textT l e ++ r → SepR r → Stop s (f + (textT l e).length) → Ev (fun n => aOr l s n d f) (.ok e (nx s (f + (textT l e).length)))
theorem tkn_of {q : Nat} {u : List UInt8} (h : s.drop q = u) : tkn s q = (tokAt u).1 := by unfold tkn; rw [h]
theorem begs_kid (hg : goodB l = true) {x : S28} (hx : Fit l x) (cat : Bool) {r : List UInt8} (hr : SepR r) : Begs (held cat x.f0 (textT l x) ++ r) :=
 begs_held (fun r' hr' => begs_text hg _ x (Nat.le_refl _) hx r' hr') hr
theorem cats_ev (hg : goodB l = true) {d : Nat} : ∀ (xs : List S28), (∀ x ∈ xs, Fit l x ∧ RepOk l s d x) → ∀ acc q r, s.drop q = Lib.joinTail [32] (heldsT l true xs) ++ r → SepR r → StopC s (q + (Lib.joinTail [32] (heldsT l true xs)).length) →
  Ev (fun n => aCats l s n d acc (nx s q)) (.ok (severalT 5 (acc ++ xs)) (nx s (q + (Lib.joinTail [32] (heldsT l true xs)).length))) ∧ (tkn s (nx s q)).isOne 42 = false
 | [], _, acc, q, r, hd, hr, hs => by
  rw [heldsT_nil, joinTail_nil] at hs ⊢
  rw [List.append_nil]
  exact ⟨cats_stop hs.begins, hs.star⟩
 | x :: xs, hx, acc, q, r, hd, hr, hs => by
  rw [heldsT_cons, joinTail_cons] at hd hs ⊢
  have hr2 : SepR (Lib.joinTail [32] (heldsT l true xs) ++ r) := sep_tail _ rfl _ _ hr
  have hb := begs_kid hg (hx x (by simp)).1 true hr2
  have hd1 : s.drop q = 32 :: (held true x.f0 (textT l x) ++ (Lib.joinTail [32] (heldsT l true xs) ++ r)) := by rw [hd]; simp
  have hn : nx s q = q + 1 := nx_blank hd1 hb.noBlank
  have hd2 : s.drop (q + 1) = held true x.f0 (textT l x) ++ (Lib.joinTail [32] (heldsT l true xs) ++ r) := drop_add (u := [32]) hd1 1 rfl
  have hd3 := drop_add hd2 _ rfl
  have hq : q + ([32] ++ held true x.f0 (textT l x) ++ Lib.joinTail [32] (heldsT l true xs)).length = q + 1 + (held true x.f0 (textT l x)).length + (Lib.joinTail [32] (heldsT l true xs)).length := by simp; omega
  rw [hq] at hs ⊢
  have hbt : (tkn s (q + 1)).begins = true := by rw [tkn_of hd2]; exact hb.begins
  obtain ⟨ih, hst⟩ := cats_ev hg xs (fun y hy => hx y (by simp [hy])) (acc ++ [x]) _ r hd3 hr hs
  rw [hn]
  refine ⟨?_, begins_other hbt _ (.inl rfl)⟩
  refine Ev.step (fun k => rfl) ?_
  have hbt' : (tokAt (s.drop (q + 1))).1.begins = true := hbt
  refine Ev.congr (fun k => by rw [aCats, if_pos hbt']) ?_
  refine Rs.and_ev (v := x) (p := nx s (q + 1 + (held true x.f0 (textT l x)).length)) ((hx x (by simp)).2 _ _ hd2 hr2 _ (stars_stop hst)) ?_
  have e : acc ++ x :: xs = acc ++ [x] ++ xs := by simp
  rw [e]
  exact ih
theorem ors_ev (hg : goodB l = true) {d : Nat} : ∀ (xs : List S28), (∀ x ∈ xs, Fit l x ∧ CatOk l s d x) → ∀ acc q r, s.drop q = Lib.joinTail [32, 124, 32] (heldsT l false xs) ++ r → SepR r → Stop s (q + (Lib.joinTail [32, 124, 32] (heldsT l false xs)).length) →
  Ev (fun n => aOrs l s n d acc (nx s q)) (.ok (severalT 6 (acc ++ xs)) (nx s (q + (Lib.joinTail [32, 124, 32] (heldsT l false xs)).length))) ∧ StopC s q
 | [], _, acc, q, r, hd, hr, hs => by
  rw [heldsT_nil, joinTail_nil] at hs ⊢
  rw [List.append_nil]
  exact ⟨ors_stop hs.bar, hs.toStopC⟩
 | x :: xs, hx, acc, q, r, hd, hr, hs => by
  rw [heldsT_cons, joinTail_cons] at hd hs ⊢
  have hr2 : SepR (Lib.joinTail [32, 124, 32] (heldsT l false xs) ++ r) := sep_tail _ rfl _ _ hr
  have hb := begs_kid hg (hx x (by simp)).1 false hr2
  have hd1 : s.drop q = 32 :: 124 :: 32 :: (held false x.f0 (textT l x) ++ (Lib.joinTail [32, 124, 32] (heldsT l false xs) ++ r)) := by rw [hd]; simp
  have hn : nx s q = q + 1 := nx_blank hd1 (by simp)
  have hd4 : s.drop (q + 1) = 124 :: 32 :: (held false x.f0 (textT l x) ++ (Lib.joinTail [32, 124, 32] (heldsT l false xs) ++ r)) := drop_add (u := [32]) hd1 1 rfl
  have hd5 : s.drop (q + 1 + 1) = 32 :: (held false x.f0 (textT l x) ++ (Lib.joinTail [32, 124, 32] (heldsT l false xs) ++ r)) := drop_add (u := [124]) hd4 1 rfl
  have hn2 : nx s (q + 1 + 1) = q + 1 + 1 + 1 := nx_blank hd5 hb.noBlank
  have hd2 : s.drop (q + 1 + 1 + 1) = held false x.f0 (textT l x) ++ (Lib.joinTail [32, 124, 32] (heldsT l false xs) ++ r) := drop_add (u := [32]) hd5 1 rfl
  have hd3 := drop_add hd2 _ rfl
  have hq : q + ([32, 124, 32] ++ held false x.f0 (textT l x) ++ Lib.joinTail [32, 124, 32] (heldsT l false xs)).length = q + 1 + 1 + 1 + (held false x.f0 (textT l x)).length + (Lib.joinTail [32, 124, 32] (heldsT l false xs)).length := by simp; omega
  rw [hq] at hs ⊢
  have ht : tkn s (q + 1) = .one 124 := by rw [tkn_of hd4]; rfl
  obtain ⟨ih, hst⟩ := ors_ev hg xs (fun y hy => hx y (by simp [hy])) (acc ++ [x]) _ r hd3 hr hs
  refine ⟨?_, ⟨by rw [hn, ht]; rfl, by rw [hn, ht]; rfl⟩⟩
  rw [hn]
  refine Ev.step (fun k => rfl) ?_
  have ht' : (tokAt (s.drop (q + 1))).1.isOne 124 = true := by have : (tokAt (s.drop (q + 1))).1 = .one 124 := ht; rw [this]; rfl
  refine Ev.congr (fun k => by rw [aOrs, if_pos ht', hn2]) ?_
  refine Rs.and_ev (v := x) (p := nx s (q + 1 + 1 + 1 + (held false x.f0 (textT l x)).length)) ((hx x (by simp)).2 _ _ hd2 hr2 hst) ?_
  have e : acc ++ x :: xs = acc ++ [x] ++ xs := by simp
  rw [e]
  exact ih
theorem aAtom_paren {n d f : Nat} (h : tokAt (s.drop f) = (.one 40, 1)) (hd : ¬ 40 < d) : aAtom l s (n + 1) d f = Rs.and (aOr l s n (d + 1) (nx s (f + 1))) fun x g => if (tokAt (s.drop g)).1.isOne 41 then some (.ok x (nx s (g + 1))) else some (.err 1 g) := by
 rw [aAtom, h]
 show (if (40 : UInt8) = 48 then _ else if (40 : UInt8) = 49 then _ else if (40 : UInt8) = 40 then _ else _) = _
 rw [if_neg (by decide), if_neg (by decide), if_pos rfl, if_neg hd]
def aNestEnd (l : List S56) (s : List UInt8) (a : Int) (x : S28) (g : Nat) : Option Rs := match tokAt (s.drop g) with
 | (.over nm2, m2) => (match findT l nm2 2 0 with
  | some b => some (.ok ⟨4, a, b, [x]⟩ (nx s (g + m2)))
  | none => some (.err 6 g))
 | _ => some (.err 1 g)
theorem aAtom_nest {n d f m : Nat} {nm : List UInt8} {a : Int} (h : tokAt (s.drop f) = (.nest nm, m)) (fa : findT l nm 1 0 = some a) (hd : ¬ 40 < d) : aAtom l s (n + 1) d f = Rs.and (aOr l s n (d + 1) (nx s (f + m))) fun x g => aNestEnd l s a x g := by
 rw [aAtom, h]
 simp only [fa]
 rw [if_neg hd]
 rfl
theorem tdeep_mem : ∀ {xs : List S28} {x : S28}, x ∈ xs → tdeep x ≤ tdeepL xs
 | y :: ys, x, h => by
  rw [tdeepL]
  rcases List.mem_cons.mp h with rfl | h
  ·omega
  ·have := tdeep_mem h; omega
theorem read_all (hg : goodB l = true) : ∀ (n : Nat) (e : S28), tsize e ≤ n → Fit l e → (∀ d, d + tdeep e ≤ 41 → OrOk l s d e) ∧ (∀ d, d + 1 + tdeep e ≤ 41 → RepOk l s d e ∧ CatOk l s d e)
 | 0, e, h, _ => by rw [tsize_eq] at h; omega
 | n + 1, e, h, hf => by
  have hdp : 1 ≤ tdeep e := by rw [tdeep_eq]; omega
  have kid : ∀ z ∈ e.f3, Fit l z → (∀ d, d + tdeep e ≤ 41 → RepOk l s d z ∧ CatOk l s d z) ∧ (∀ d, d + tdeep e ≤ 41 → OrOk l s (d + 1) z) := by
   intro z hz hfz
   have h1 := tsize_mem hz
   have h2 := tsize_eq e
   have h3 := tdeep_eq e
   have h4 := tdeep_mem hz
   obtain ⟨i1, i2⟩ := read_all hg n z (by omega) hfz
   exact ⟨fun d hd => i2 d (by omega), fun d hd => i1 (d + 1) (by omega)⟩
  have hv := view hf
  have bare : (¬ e.f0 = 5) → (¬ e.f0 = 6) → ∀ d, d + tdeep e ≤ 41 → ∀ f r, s.drop f = textT l e ++ r → SepR r → ∀ R, Ev (fun n => aStars l s n e (nx s (f + (textT l e).length))) R → Ev (fun n => aRep l s n d f) R := by
   intro h5 h6 d hd f r hdr hr R hR
   cases hv with
   | none =>
    rw [textT_none] at hdr hR
    refine Ev.step (fun k => rfl) ?_
    refine Ev.congr (fun k => by rw [aRep]) ?_
    refine Rs.and_ev (v := ⟨1, 0, 0, []⟩) (p := nx s (f + 1)) ?_ hR
    refine Ev.step (fun k => rfl) ?_
    refine Ev.congr (f := fun _ => some (.ok ⟨1, 0, 0, []⟩ (nx s (f + 1)))) (fun k => ?_) (Ev.now _)
    rw [aAtom, hdr]
    rfl
   | void =>
    rw [textT_void] at hdr hR
    refine Ev.step (fun k => rfl) ?_
    refine Ev.congr (fun k => by rw [aRep]) ?_
    refine Rs.and_ev (v := ⟨2, 0, 0, []⟩) (p := nx s (f + 1)) ?_ hR
    refine Ev.step (fun k => rfl) ?_
    refine Ev.congr (f := fun _ => some (.ok ⟨2, 0, 0, []⟩ (nx s (f + 1)))) (fun k => ?_) (Ev.now _)
    rw [aAtom, hdr]
    rfl
   | sym a h0 h1 =>
    rw [textT_sym] at hdr hR
    refine Ev.step (fun k => rfl) ?_
    refine Ev.congr (fun k => by rw [aRep]) ?_
    refine Rs.and_ev (v := ⟨3, a, 0, []⟩) (p := nx s (f + (symT l a).length)) ?_ hR
    refine Ev.step (fun k => rfl) ?_
    refine Ev.congr (f := fun _ => some (.ok ⟨3, a, 0, []⟩ (nx s (f + (symT l a).length)))) (fun k => ?_) (Ev.now _)
    rw [aAtom, hdr, symT_tok hg h0 h1 hr]
    simp only [find_name hg h0 h1]
   | nest a b x a0 a1 a2 b0 b1 b2 hx =>
    have hna := good_nm hg a0 a1
    have hnb := good_nm hg b0 b1
    have hor := (kid x (by simp) hx).2 d hd
    rw [textT_nest] at hdr hR
    have hd1 : s.drop f = 60 :: (nameT l a ++ 91 :: (32 :: (textT l x ++ 32 :: 93 :: (nameT l b ++ 62 :: r)))) := by rw [hdr]; simp
    have hr1 : SepR (32 :: 93 :: (nameT l b ++ 62 :: r)) := SepR.cons (by decide)
    have hbg := begs_text hg _ x (Nat.le_refl _) hx _ hr1
    have hd2 : s.drop (f + ((nameT l a).length + 2)) = 32 :: (textT l x ++ 32 :: 93 :: (nameT l b ++ 62 :: r)) := drop_add (u := 60 :: (nameT l a ++ [91])) (by rw [hd1]; simp) _ (by simp)
    have hn1 : nx s (f + ((nameT l a).length + 2)) = f + ((nameT l a).length + 2) + 1 := nx_blank hd2 hbg.noBlank
    have hd3 : s.drop (f + ((nameT l a).length + 2) + 1) = textT l x ++ 32 :: 93 :: (nameT l b ++ 62 :: r) := drop_add (u := [32]) hd2 1 rfl
    have hd4 := drop_add hd3 _ rfl
    have hn2 := nx_blank hd4 (by simp)
    have hd5 := drop_add (u := [32]) hd4 1 rfl
    have ht : tokAt (s.drop (f + ((nameT l a).length + 2) + 1 + (textT l x).length + 1)) = (.over (nameT l b), (nameT l b).length + 2) := by rw [hd5]; exact tok_over hnb
    have ht' : tkn s (nx s (f + ((nameT l a).length + 2) + 1 + (textT l x).length)) = .over (nameT l b) := by rw [hn2]; unfold tkn; rw [ht]
    have hst : Stop s (f + ((nameT l a).length + 2) + 1 + (textT l x).length) := ⟨⟨by rw [ht']; rfl, by rw [ht']; rfl⟩, by rw [ht']; rfl⟩
    have hlen : f + (60 :: (nameT l a ++ 91 :: 32 :: (textT l x ++ 32 :: 93 :: (nameT l b ++ [62])))).length = f + ((nameT l a).length + 2) + 1 + (textT l x).length + 1 + ((nameT l b).length + 2) := by simp; omega
    rw [hlen] at hR
    refine Ev.step (fun k => rfl) ?_
    refine Ev.congr (fun k => by rw [aRep]) ?_
    refine Rs.and_ev (v := ⟨4, a, b, [x]⟩) ?_ hR
    refine Ev.step (fun k => rfl) ?_
    have fa := find_name hg a0 a1
    have fb := find_name hg b0 b1
    rw [a2] at fa
    rw [b2] at fb
    refine Ev.congr (fun k => aAtom_nest (by rw [hd1, tok_nest hna]) fa (by omega)) ?_
    rw [hn1]
    refine Rs.and_ev (hor _ _ hd3 hr1 hst) ?_
    rw [hn2]
    refine Ev.congr (f := fun _ => some (.ok ⟨4, a, b, [x]⟩ (nx s (f + ((nameT l a).length + 2) + 1 + (textT l x).length + 1 + ((nameT l b).length + 2))))) (fun k => ?_) (Ev.now _)
    unfold aNestEnd
    rw [ht]
    simp only [fb]
   | cat x y xs hx => exact absurd rfl h5
   | or x y xs hx => exact absurd rfl h6
   | star x hx =>
    have hrep := ((kid x (by simp) hx).1 d hd).1
    rw [textT_star, List.append_assoc] at hdr
    rw [textT_star] at hR
    have hd2 := drop_add hdr _ rfl
    have hn : nx s (f + (held true x.f0 (textT l x)).length) = f + (held true x.f0 (textT l x)).length := nx_same (by rw [hd2]; simp)
    refine hrep f _ hdr (SepR.cons (by decide)) R ?_
    rw [hn]
    refine Ev.step (fun k => rfl) ?_
    have ht : (tokAt (s.drop (f + (held true x.f0 (textT l x)).length))).1.isOne 42 = true := by rw [hd2]; rfl
    refine Ev.congr (fun k => by rw [aStars, if_pos ht]) ?_
    have hl : f + (held true x.f0 (textT l x) ++ [42]).length = f + (held true x.f0 (textT l x)).length + 1 := by simp; omega
    rw [hl] at hR
    exact hR
  have cat : (¬ e.f0 = 6) → ∀ d, d + tdeep e ≤ 41 → ∀ f r, s.drop f = textT l e ++ r → SepR r → StopC s (f + (textT l e).length) → Ev (fun n => aCat l s n d f) (.ok e (nx s (f + (textT l e).length))) := by
   intro h6 d hd f r hdr hr hst
   by_cases h5 : e.f0 = 5
   ·clear bare
    cases hv with
    | cat x y xs hx =>
     have hk : ∀ z ∈ x :: y :: xs, Fit l z ∧ RepOk l s d z := fun z hz => ⟨hx z hz, ((kid z hz (hx z hz)).1 d hd).1⟩
     rw [textT_cat, List.append_assoc] at hdr
     rw [textT_cat, List.length_append, ← Nat.add_assoc] at hst ⊢
     have hd2 := drop_add hdr _ rfl
     obtain ⟨h1, h2⟩ := cats_ev hg (y :: xs) (fun z hz => hk z (by simp [hz])) [x] _ r hd2 hr hst
     refine Ev.step (fun k => rfl) ?_
     refine Ev.congr (fun k => by rw [aCat]) ?_
     exact Rs.and_ev ((hk x (by simp)).2 f _ hdr (sep_tail _ rfl _ _ hr) _ (stars_stop h2)) h1
    | _ => simp at h5
   ·exact rep_cat (bare h5 h6 d hd f r hdr hr _ (stars_stop hst.star)) hst.begins
  have or : ∀ d, d + tdeep e ≤ 41 → OrOk l s d e := by
   intro d hd f r hdr hr hst
   by_cases h6 : e.f0 = 6
   ·clear bare cat
    cases hv with
    | or x y xs hx =>
     have hk : ∀ z ∈ x :: y :: xs, Fit l z ∧ CatOk l s d z := fun z hz => ⟨hx z hz, ((kid z hz (hx z hz)).1 d hd).2⟩
     rw [textT_or, List.append_assoc] at hdr
     rw [textT_or, List.length_append, ← Nat.add_assoc] at hst ⊢
     have hd2 := drop_add hdr _ rfl
     obtain ⟨h1, h2⟩ := ors_ev hg (y :: xs) (fun z hz => hk z (by simp [hz])) [x] _ r hd2 hr hst
     refine Ev.step (fun k => rfl) ?_
     refine Ev.congr (fun k => by rw [aOr]) ?_
     exact Rs.and_ev ((hk x (by simp)).2 f _ hdr (sep_tail _ rfl _ _ hr) h2) h1
    | _ => simp at h6
   ·exact cat_or (cat h6 d hd f r hdr hr hst.toStopC) hst.bar
  refine ⟨or, fun d hd => ?_⟩
  have rep : RepOk l s d e := by
   intro f r hdr hr R hR
   by_cases hp : e.f0 = 6 ∨ true = true ∧ e.f0 = 5
   ·rw [held_par _ _ _ hp] at hdr hR
    have hr1 : SepR (32 :: 41 :: r) := SepR.cons (by decide)
    have hbg := begs_text hg _ e (Nat.le_refl _) hf _ hr1
    have hd1 : s.drop f = 40 :: 32 :: (textT l e ++ 32 :: 41 :: r) := by rw [hdr]; simp
    have hd2 : s.drop (f + 1) = 32 :: (textT l e ++ 32 :: 41 :: r) := drop_add (u := [40]) hd1 1 rfl
    have hn1 : nx s (f + 1) = f + 1 + 1 := nx_blank hd2 hbg.noBlank
    have hd3 : s.drop (f + 1 + 1) = textT l e ++ 32 :: 41 :: r := drop_add (u := [32]) hd2 1 rfl
    have hd4 := drop_add hd3 _ rfl
    have hn2 := nx_blank hd4 (by simp)
    have hd5 := drop_add (u := [32]) hd4 1 rfl
    have ht' : tkn s (nx s (f + 1 + 1 + (textT l e).length)) = .one 41 := by rw [hn2, tkn_of hd5]; rfl
    have hst : Stop s (f + 1 + 1 + (textT l e).length) := ⟨⟨by rw [ht']; rfl, by rw [ht']; rfl⟩, by rw [ht']; rfl⟩
    have hlen : f + (40 :: 32 :: (textT l e ++ [32, 41])).length = f + 1 + 1 + (textT l e).length + 1 + 1 := by simp; omega
    rw [hlen] at hR
    refine Ev.step (fun k => rfl) ?_
    refine Ev.congr (fun k => by rw [aRep]) ?_
    refine Rs.and_ev (v := e) ?_ hR
    refine Ev.step (fun k => rfl) ?_
    refine Ev.congr (fun k => aAtom_paren (by rw [hd1]; rfl) (by omega)) ?_
    rw [hn1]
    refine Rs.and_ev (or (d + 1) (by omega) _ _ hd3 hr1 hst) ?_
    refine Ev.congr (f := fun _ => some (.ok e (nx s (f + 1 + 1 + (textT l e).length + 1 + 1)))) (fun k => ?_) (Ev.now _)
    have ht2 : (tokAt (s.drop (nx s (f + 1 + 1 + (textT l e).length)))).1.isOne 41 = true := by have : (tokAt (s.drop (nx s (f + 1 + 1 + (textT l e).length)))).1 = .one 41 := ht'; rw [this]; rfl
    rw [if_pos ht2, hn2]
   ·rw [held_bare _ _ _ hp] at hdr hR
    exact bare (fun q => hp (.inr ⟨rfl, q⟩)) (fun q => hp (.inl q)) d (by omega) f r hdr hr R hR
  refine ⟨rep, fun f r hdr hr hst => ?_⟩
  by_cases h6 : e.f0 = 6
  ·have hh : held false e.f0 (textT l e) = held true e.f0 (textT l e) := by unfold held; rw [if_pos (.inl h6), if_pos (.inl h6)]
   rw [hh] at hdr hst ⊢
   exact rep_cat (rep f r hdr hr _ (stars_stop hst.star)) hst.begins
  ·have hh : held false e.f0 (textT l e) = textT l e := held_bare _ _ _ (by simp [h6])
   rw [hh] at hdr hst ⊢
   exact cat h6 d (by omega) f r hdr hr hst
end
theorem nx_end (s : List UInt8) : nx s s.length = s.length := by unfold nx; rw [List.drop_length]; rfl
theorem parse_text {l : List S56} (hg : goodB l = true) {e : S28} (h : treeErr l e = 0) : Ev (fun n => aParse l (textT l e) n) (e, 0, 0) := by
 have hd : ¬ 20 < tdeep e := fun q => by rw [treeErr, if_pos q] at h; cases h
 have hs : ¬ 200 < tsize e := fun q => by rw [treeErr, if_neg hd, if_pos q] at h; cases h
 have hf : tformed e = true := by
  cases hq : tformed e with
  | true => rfl
  | false => rw [treeErr, if_neg hd, if_neg hs, hq] at h; cases h
 have hb : tbad l e = false := by
  cases hq : tbad l e with
  | false => rfl
  | true => rw [treeErr, if_neg hd, if_neg hs, hf, hq] at h; cases h
 have hfit : Fit l e := ⟨hf, hb⟩
 have hbg := begs_text hg _ e (Nat.le_refl _) hfit [] SepR.nil
 rw [List.append_nil] at hbg
 have h0 : nx (textT l e) 0 = 0 := nx_same (by rw [List.drop_zero]; exact hbg.noBlank)
 have ht : tkn (textT l e) (nx (textT l e) (0 + (textT l e).length)) = .eof := by rw [Nat.zero_add, nx_end]; unfold tkn; rw [List.drop_length]; rfl
 have hst : Stop (textT l e) (0 + (textT l e).length) := ⟨⟨by rw [ht]; rfl, by rw [ht]; rfl⟩, by rw [ht]; rfl⟩
 have := (read_all (s := textT l e) hg _ e (Nat.le_refl _) hfit).1 0 (by omega) 0 [] (by simp) SepR.nil hst
 obtain ⟨K, hK⟩ := this
 refine ⟨K, fun k hk => ?_⟩
 show aParse l (textT l e) k = _
 unfold aParse
 have hK2 : aOr l (textT l e) k 0 0 = some (Rs.ok e (nx (textT l e) (0 + (textT l e).length))) := hK k hk
 rw [h0, hK2]
 have ht2 : (tokAt ((textT l e).drop (nx (textT l e) (0 + (textT l e).length)))).1 = .eof := ht
 simp only [Option.map_some, ht2]
 rw [if_pos h]
 rfl
def B (bs : List UInt8) : ByteArray := ⟨bs.toArray⟩
def L (s : ByteArray) : List UInt8 := s.data.toList
theorem L_B (bs : List UInt8) : L (B bs) = bs := by simp [L, B]
theorem B_L (s : ByteArray) : B (L s) = s := by simp [L, B]
theorem L_len (s : ByteArray) : (L s).length = s.size := by simp only [L, Array.length_toList]; rfl
theorem B_size (bs : List UInt8) : (B bs).size = bs.length := by rw [← L_len, L_B]
theorem toL (s : ByteArray) : s.toList = L s := ByteArray.toList_eq s
theorem L_append (a b : ByteArray) : L (a ++ b) = L a ++ L b := by simp [L]
theorem L_extract (s : ByteArray) (i j : Nat) : L (s.extract i j) = ((L s).drop i).take (j - i) := by
 have := Lib.extract_toList s i j
 rwa [toL] at this
theorem L_inj {a b : ByteArray} (h : L a = L b) : a = b := by rw [← B_L a, h, B_L]
theorem bt_L (s : ByteArray) (i : Nat) (h : i < s.size) : bt s (i : Int) = (((L s)[i]'(by rw [L_len]; exact h)).toNat : Int) := by
 unfold bt
 simp only [Int.toNat_natCast]
 rw [dif_pos h]
 rfl
theorem ext_from (s : ByteArray) (i : Nat) (h : i ≤ s.size) : s.extract i s.size = B ((L s).drop i) := by
 apply L_inj
 rw [L_extract, L_B]
 exact List.take_of_length_le (by rw [List.length_drop, L_len]; omega)
theorem ext_to (s : ByteArray) (i : Nat) : s.extract 0 i = B ((L s).take i) := by
 apply L_inj
 rw [L_extract, L_B, List.drop_zero]
 rfl
theorem lets_le : ∀ t : List UInt8, lets t ≤ t.length
 | [] => Nat.le_refl _
 | c :: t => by
  have := lets_le t
  rw [lets]
  split
  ·rw [List.length_cons]; omega
  ·omega
theorem letters_l0 (s : ByteArray) (hs : s.size ≤ 1000000000) : ∀ (d i : Nat), i + d = s.size → Ev (fun k => expr_letters.l0 k s (i : Int)) ((i + lets ((L s).drop i) : Nat) : Int) := by
 intro d
 induction d with
 | zero =>
  intro i hi
  refine Ev.step (fun k => rfl) ?_
  refine Ev.congr (f := fun _ => some ((i + lets ((L s).drop i) : Nat) : Int)) (fun k => ?_) (Ev.now _)
  rw [expr_letters.l0, if_neg (by omega), List.drop_eq_nil_of_le (by rw [L_len]; omega)]
  rfl
 | succ d ih =>
  intro i hi
  have hlt : i < s.size := by omega
  have hl : i < (L s).length := by rw [L_len]; exact hlt
  refine Ev.step (fun k => rfl) ?_
  have hb := bt_L s i hlt
  rw [List.drop_eq_getElem_cons hl, lets]
  by_cases h1 : 97 ≤ ((L s)[i]).toNat
  ·by_cases h2 : ((L s)[i]).toNat ≤ 122
   ·refine Ev.congr (fun k => by rw [expr_letters.l0, if_pos (by omega), if_pos (by omega), hb, if_pos (by omega), if_pos (by omega), wrap_suc i s.size hlt hs]) ?_
    rw [if_pos ⟨h1, h2⟩]
    have := ih (i + 1) (by omega)
    rwa [show i + 1 + lets ((L s).drop (i + 1)) = i + (lets ((L s).drop (i + 1)) + 1) by omega] at this
   ·rw [if_neg (fun h => h2 h.2)]
    exact Ev.congr (f := fun _ => some ((i + 0 : Nat) : Int)) (fun k => by rw [expr_letters.l0, if_pos (by omega), if_pos (by omega), hb, if_pos (by omega), if_neg (by omega)]; rfl) (Ev.now _)
  ·rw [if_neg (fun h => h1 h.1)]
   exact Ev.congr (f := fun _ => some ((i + 0 : Nat) : Int)) (fun k => by rw [expr_letters.l0, if_pos (by omega), if_pos (by omega), hb, if_neg (by omega)]; rfl) (Ev.now _)
theorem letters_ev (s : ByteArray) (hs : s.size ≤ 1000000000) : Ev (fun k => expr_letters.f k s) (lets (L s) : Int) := by
 have := letters_l0 s hs s.size 0 (by omega)
 rw [List.drop_zero, Nat.zero_add] at this
 exact this
theorem index_ge (c : UInt8) : ∀ es : List UInt8, (¬ Lib.indexByte es c < 0) ↔ c ∈ es
 | [] => by simp [Lib.indexByte]
 | b :: es => by
  have ih := index_ge c es
  have hg := Lib.indexByte_ge es c
  rw [Lib.indexByte]
  by_cases h : b = c
  ·subst h; simp
  ·have h' : (b == c) = false := beq_eq_false_iff_ne.mpr h
   rw [h', if_neg (by decide)]
   by_cases h2 : Lib.indexByte es c = -1
   ·rw [if_pos (by rw [h2]; rfl)]
    have : ¬ c ∈ es := fun hm => by have := ih.mpr hm; omega
    simp [this, Ne.symm h]
   ·rw [if_neg (by simpa using h2)]
    have : c ∈ es := ih.mp (by omega)
    simp [this]
    omega
def namedT (t es : List UInt8) : ByteArray × Int × Int :=
 if okN t then (if es = [] then (B (t.take (lets t)), 32, (lets t : Int)) else match t[lets t]? with
  | some c => if c ∈ es then (B (t.take (lets t)), (c.toNat : Int), ((lets t + 1 : Nat) : Int)) else (⟨#[]⟩, 0, 0)
  | none => (⟨#[]⟩, 0, 0))
 else (⟨#[]⟩, 0, 0)
theorem toUInt8_toNat (c : UInt8) : ((c.toNat : Int)).toNat.toUInt8 = c := by simp
theorem pnamed_ev (s es : ByteArray) (hs : s.size ≤ 1000000000) : Ev (fun k => expr_named.f k s es) (namedT (L s) (L es)) := by
 have hle := lets_le (L s)
 rw [L_len] at hle
 unfold expr_named.f
 refine Ev.bind (letters_ev s hs) ?_
 unfold namedT
 by_cases h1 : 1 ≤ lets (L s)
 ·refine Ev.congr (fun k => by rw [if_neg (by omega)]) ?_
  by_cases h8 : lets (L s) ≤ 8
  ·have hk : okN (L s) = true := by unfold okN; simp; omega
   rw [if_pos hk]
   refine Ev.step (fun k => rfl) ?_
   have hd : decide (((lets (L s) : Nat) : Int) > 8) = false := decide_eq_false (by omega)
   by_cases he : L es = []
   ·rw [if_pos he]
    refine Ev.congr (f := fun _ => some (B ((L s).take (lets (L s))), 32, ((lets (L s) : Nat) : Int))) (fun k => ?_) (Ev.now _)
    rw [expr_named.j0, hd, if_neg (by decide), if_pos (by rw [toL]; exact he), if_pos (by omega), if_pos (by omega), Int.toNat_natCast, ext_to]
   ·rw [if_neg he]
    have he' : ¬ es.toList = ([] : List UInt8) := by rw [toL]; exact he
    by_cases hz : lets (L s) = s.size
    ·rw [List.getElem?_eq_none (by rw [L_len]; omega)]
     exact Ev.congr (f := fun _ => some ((⟨#[]⟩ : ByteArray), 0, 0)) (fun k => by rw [expr_named.j0, hd, if_neg (by decide), if_neg he', if_pos (by omega)]) (Ev.now _)
    ·have hl : lets (L s) < (L s).length := by rw [L_len]; omega
     rw [List.getElem?_eq_getElem hl]
     have hb := bt_L s (lets (L s)) (by omega)
     have hi : strings_IndexByte.f es (bt s ((lets (L s) : Nat) : Int)) = some (Lib.indexByte (L es) ((L s)[lets (L s)])) := by
      unfold strings_IndexByte.f
      rw [hb, toUInt8_toNat]
      rfl
     have hq := index_ge ((L s)[lets (L s)]) (L es)
     by_cases hm : (L s)[lets (L s)] ∈ L es
     ·refine Ev.congr (f := fun _ => some (B ((L s).take (lets (L s))), (((L s)[lets (L s)]).toNat : Int), ((lets (L s) + 1 : Nat) : Int))) (fun k => ?_) ?_
      ·rw [expr_named.j0, hd, if_neg (by decide), if_neg he', if_neg (by omega), if_pos (by omega), if_pos (by omega), hi, Option.bind_some, if_neg (hq.mpr hm), if_pos (by omega), Int.toNat_natCast, ext_to, hb, wrap_suc _ s.size (by omega) hs]
      ·simp only [if_pos hm]; exact Ev.now _
     ·refine Ev.congr (f := fun _ => some ((⟨#[]⟩ : ByteArray), 0, 0)) (fun k => ?_) ?_
      ·rw [expr_named.j0, hd, if_neg (by decide), if_neg he', if_neg (by omega), if_pos (by omega), if_pos (by omega), hi, Option.bind_some, if_pos (by have := mt hq.mp hm; omega)]
      ·simp only [if_neg hm]; exact Ev.now _
  ·have hk : ¬ okN (L s) = true := by unfold okN; simp; omega
   rw [if_neg hk]
   refine Ev.step (fun k => rfl) ?_
   have hd : decide (((lets (L s) : Nat) : Int) > 8) = true := decide_eq_true (by omega)
   exact Ev.congr (f := fun _ => some ((⟨#[]⟩ : ByteArray), 0, 0)) (fun k => by rw [expr_named.j0, hd, if_pos rfl]) (Ev.now _)
 ·have hk : ¬ okN (L s) = true := by unfold okN; simp; omega
  rw [if_neg hk]
  refine Ev.congr (fun k => by rw [if_pos (by omega)]) ?_
  refine Ev.step (fun k => rfl) ?_
  exact Ev.congr (f := fun _ => some ((⟨#[]⟩ : ByteArray), 0, 0)) (fun k => by rw [expr_named.j0, if_pos rfl]) (Ev.now _)
abbrev PS := ByteArray × Int × Int × Int × ByteArray × Int × Int × Int × Int × Int
def Tk.K : Tk → Int
 | .eof => 1
 | .bad => 2
 | .one _ => 3
 | .sym _ _ => 4
 | .nest _ => 5
 | .over _ => 6
def Tk.N : Tk → ByteArray
 | .sym nm _ => B nm
 | .nest nm => B nm
 | .over nm => B nm
 | _ => ⟨#[]⟩
def Tk.S : Tk → Int
 | .sym _ k => k
 | .nest _ => 1
 | .over _ => 2
 | _ => 0
def Tk.C : Tk → Int
 | .one c => (c.toNat : Int)
 | _ => 0
def stT (s : ByteArray) (f : Nat) (t : Tk × Nat) (d e p : Int) : PS := (s, (f : Int), ((f + t.2 : Nat) : Int), t.1.K, t.1.N, t.1.S, t.1.C, d, e, p)
def st (s : ByteArray) (f : Nat) (d e p : Int) : PS := stT s f (tokAt ((L s).drop f)) d e p
theorem tokLt_len (t : List UInt8) : (tokLt t).2 ≤ t.length + 1 := by
 unfold tokLt endsBy
 have h1 := lets_le t
 have h2 := lets_le t.tail
 have e : ∀ (u : List UInt8) (c : UInt8), (okN u && decide (u[lets u]? = some c)) = true → lets u + 1 ≤ u.length := fun u c h => by
  simp only [Bool.and_eq_true, decide_eq_true_eq] at h
  have := (List.getElem?_eq_some_iff.mp h.2).1
  omega
 split
 ·rename_i h0
  split
  ·rename_i h
   have := e _ _ h
   cases t with
   | nil => simp at h0
   | cons c t => simp only [List.tail_cons, List.length_cons] at *; omega
  ·simp
 ·split
  ·rename_i h; have := e _ _ h; simp only; omega
  ·split
   ·rename_i h; have := e _ _ h; simp only; omega
   ·simp
theorem tok_len (t : List UInt8) : (tokAt t).2 ≤ t.length := by
 cases t with
 | nil => simp [tokAt]
 | cons c t =>
  rw [tokAt]
  have h0 := tokLt_len t
  have h1 := lets_le t
  have h2 := lets_le (c :: t)
  split
  ·simp
  ·split
   ·simpa using h0
   ·split
    ·split
     ·rename_i h
      simp only [endsBy, Bool.and_eq_true, decide_eq_true_eq] at h
      have := (List.getElem?_eq_some_iff.mp h.2).1
      simp only [List.length_cons]; omega
     ·simp
    ·split
     ·simpa using h2
     ·simp
theorem blk_le : ∀ t : List UInt8, blk t ≤ t.length
 | [] => Nat.le_refl _
 | c :: t => by
  have := blk_le t
  rw [blk]
  split
  ·rw [List.length_cons]; omega
  ·omega
theorem nx_le (s : List UInt8) (q : Nat) (h : q ≤ s.length) : nx s q ≤ s.length := by
 unfold nx
 have := blk_le (s.drop q)
 rw [List.length_drop] at this
 omega
theorem tok_le (s : List UInt8) (q : Nat) (h : q ≤ s.length) : q + (tokAt (s.drop q)).2 ≤ s.length := by
 have := tok_len (s.drop q)
 rw [List.length_drop] at this
 omega
theorem sign_ge (c : UInt8) : (¬ Lib.indexByte [48, 49, 40, 41, 124, 42] c < 0) ↔ isSign c = true := by
 rw [index_ge]
 unfold isSign
 simp [or_assoc]
theorem ends_some {t : List UInt8} {c : UInt8} (h : endsBy t c = true) (es : List UInt8) (hc : c ∈ es) : namedT t es = (B (t.take (lets t)), (c.toNat : Int), ((lets t + 1 : Nat) : Int)) := by
 simp only [endsBy, Bool.and_eq_true, decide_eq_true_eq] at h
 unfold namedT
 rw [if_pos h.1, if_neg (by intro e; rw [e] at hc; simp at hc), h.2]
 simp only [if_pos hc]
theorem ends_none {t es : List UInt8} (he : es ≠ []) (h : ∀ c ∈ es, endsBy t c = false) : namedT t es = (⟨#[]⟩, 0, 0) := by
 unfold namedT
 by_cases hk : okN t = true
 ·rw [if_pos hk, if_neg he]
  cases hq : t[lets t]? with
  | none => rfl
  | some c =>
   by_cases hc : c ∈ es
   ·have := h c hc
    rw [endsBy, hk, hq] at this
    simp at this
   ·simp only [if_neg hc]
 ·rw [if_neg hk]
theorem L62 : L (⟨#[62]⟩ : ByteArray) = [62] := rfl
theorem L6291 : L (⟨#[62, 91]⟩ : ByteArray) = [62, 91] := rfl
theorem Lnil : L (⟨#[]⟩ : ByteArray) = [] := rfl
theorem wrap_add (a b c : Nat) (h : a + b = c) (hc : c ≤ 1000000000) : wrap64 ((a : Int) + (b : Int)) = (c : Int) := by unfold wrap64; omega
theorem prefix_ev (t : List UInt8) : strings_HasPrefix.f (B t) (⟨#[60, 47]⟩ : ByteArray) = some (decide (t.take 2 = [60, 47])) := by
 unfold strings_HasPrefix.f stringslite_HasPrefix.f
 have hz : ((⟨#[60, 47]⟩ : ByteArray).size : Int) = 2 := rfl
 rw [hz]
 by_cases h : (2 : Int) ≤ ((B t).size : Int)
 ·rw [if_pos h, if_pos (by omega), if_pos h]
  rw [ext_to, toL, toL, L_B, L_B]
  show some _ = _
  congr 1
  rw [Bool.eq_iff_iff]
  simp
  exact Iff.rfl
 ·rw [if_neg h]
  show some _ = _
  congr 1
  symm
  rw [decide_eq_false_iff_not]
  intro e
  have := congrArg List.length e
  rw [List.length_take] at this
  rw [B_size] at h
  simp at this
  omega
section
variable (l : List S56) (s : ByteArray) (hs : s.size ≤ 2000)
include hs
theorem j1_ev (f : Nat) (hf : f ≤ s.size) (x3 x4 : Int) (x5 : ByteArray) (x6 x7 d e p : Int) : Ev (fun k => expr_parser_next.j1 k l s (f : Int) x3 x4 x5 x6 x7 d e p) (st s f d e p) := by
 refine Ev.step (fun k => rfl) ?_
 unfold st
 have hfl : f ≤ (L s).length := by rw [L_len]; exact hf
 have hst := tok_le (L s) f hfl
 rw [L_len] at hst
 have hx : s.extract f s.size = B ((L s).drop f) := ext_from s f hf
 have hlen : ((L s).drop f).length = s.size - f := by rw [List.length_drop, L_len]
 have start : ∀ k, expr_parser_next.j1 (k + 1) l s (f : Int) x3 x4 x5 x6 x7 d e p = _ := fun k => by
  rw [expr_parser_next.j1, if_pos (by omega), if_pos (by omega), Int.toNat_natCast, hx, Option.bind_some, toL, L_B]
 cases hu : (L s).drop f with
 | nil =>
  refine Ev.congr (f := fun _ => some (stT s f (tokAt []) d e p)) (fun k => ?_) (Ev.now _)
  rw [start, if_pos hu]
  rfl
 | cons c t =>
  rw [hu] at hst hlen
  have hne : ¬ (L s).drop f = [] := by rw [hu]; simp
  have hlt : f < s.size := by rw [List.length_cons] at hlen; omega
  have htl : t.length + 1 = s.size - f := by rw [← hlen, List.length_cons]
  have hbt : bt (B (c :: t)) 0 = (c.toNat : Int) := by
   have := bt_L (B (c :: t)) 0 (by rw [B_size]; simp)
   rw [show ((0 : Nat) : Int) = 0 from rfl] at this
   rw [this]
   congr 2
  have hi : strings_IndexByte.f (⟨#[48, 49, 40, 41, 124, 42]⟩ : ByteArray) (bt (B (c :: t)) 0) = some (Lib.indexByte [48, 49, 40, 41, 124, 42] c) := by
   unfold strings_IndexByte.f
   rw [hbt, toUInt8_toNat]
  have hz : (0 : Int) < ((B (c :: t)).size : Int) := by rw [B_size]; simp
  have start2 : ∀ k, expr_parser_next.j1 (k + 1) l s (f : Int) x3 x4 x5 x6 x7 d e p = _ := fun k => by
   rw [start, if_neg hne, hu, if_pos hz, hi, Option.bind_some]
  clear start
  have hbig : (c :: t).length ≤ 1000000000 := by rw [hlen]; omega
  have w1 : wrap64 ((f : Int) + 1) = ((f + 1 : Nat) : Int) := wrap_suc f s.size hlt (Nat.le_trans hs (by decide))
  have w2 : wrap64 ((f : Int) + 2) = ((f + 2 : Nat) : Int) := wrap_add f 2 _ rfl (Nat.le_trans (Nat.add_le_add_right (Nat.le_trans hf hs) 2) (by decide))
  by_cases hsg : isSign c = true
  ·refine Ev.congr (f := fun _ => some (stT s f (.one c, 1) d e p)) (fun k => ?_) ?_
   ·rw [start2, if_pos (by have := (sign_ge c).mpr hsg; omega), hbt, w1]
    rfl
   ·rw [tokAt, if_pos hsg]; exact Ev.now _
  ·have hsg' : ¬ Lib.indexByte [48, 49, 40, 41, 124, 42] c ≥ 0 := fun h => hsg ((sign_ge c).mp (by omega))
   rw [tokAt, if_neg hsg]
   rw [tokAt, if_neg hsg] at hst
   have start3 : ∀ k, expr_parser_next.j1 (k + 1) l s (f : Int) x3 x4 x5 x6 x7 d e p = _ := fun k => by
    rw [start2, if_neg hsg', prefix_ev, Option.bind_some, hbt]
   clear start2
   by_cases hc : c = 60
   ·subst hc
    rw [if_pos rfl] at hst ⊢
    by_cases ht : t.head? = some 47
    ·obtain ⟨t2, rfl⟩ : ∃ t2, t = 47 :: t2 := by
      cases t with
      | nil => simp at ht
      | cons a t2 => simp at ht; exact ⟨t2, by rw [ht]⟩
     have hx2 : (B (60 :: 47 :: t2)).extract 2 (B (60 :: 47 :: t2)).size = B t2 := by
      rw [ext_from _ 2 (by rw [B_size]; simp), L_B]; rfl
     refine Ev.congr (fun k => by rw [start3, if_pos (by rfl), if_pos (by rw [B_size]; simp only [List.length_cons]; omega), hx2]) ?_
     refine Ev.bind (pnamed_ev (B t2) _ (by rw [B_size]; simp only [List.length_cons] at htl; omega)) ?_
     rw [L_B, L62]
     show Ev (fun k => if (namedT t2 [62]).2.2 > 0 then _ else _) _
     unfold tokLt at hst ⊢
     rw [if_pos ht, List.tail_cons] at hst ⊢
     by_cases hn : endsBy t2 62 = true
     ·rw [if_pos hn] at hst ⊢
      rw [ends_some hn [62] (by simp)]
      refine Ev.congr (f := fun _ => some (stT s f (.sym (t2.take (lets t2)) 2, lets t2 + 3) d e p)) (fun k => ?_) (Ev.now _)
      rw [if_pos (show (((lets t2 + 1 : Nat) : Int)) > 0 by omega)]
      show some (s, (f : Int), wrap64 (wrap64 ((f : Int) + 2) + ((lets t2 + 1 : Nat) : Int)), _) = _
      rw [w2, wrap_add (f + 2) (lets t2 + 1) (f + (lets t2 + 3)) (by omega) (by simp only at hst; omega)]
      rfl
     ·rw [if_neg hn]
      have hn' : endsBy t2 62 = false := by simpa using hn
      rw [ends_none (es := [62]) (by simp) (by simpa using hn')]
      exact Ev.congr (f := fun _ => some (stT s f (.bad, 0) d e p)) (fun k => by rw [if_neg (by decide)]; rfl) (Ev.now _)
    ·have hp : decide ((60 :: t).take 2 = [60, 47]) = false := by
      rw [decide_eq_false_iff_not]
      intro h
      cases t with
      | nil => simp at h
      | cons a t2 => simp at h; exact ht (by rw [h]; rfl)
     have hx2 : (B (60 :: t)).extract 1 (B (60 :: t)).size = B t := by
      rw [ext_from _ 1 (by rw [B_size]; simp), L_B]; rfl
     refine Ev.congr (fun k => by rw [start3, hp, if_neg (by decide), if_pos (by rfl), if_pos (by rw [B_size]; simp only [List.length_cons]; omega), hx2]) ?_
     refine Ev.bind (pnamed_ev (B t) _ (by rw [B_size]; omega)) ?_
     rw [L_B, L6291]
     show Ev (fun k => if (namedT t [62, 91]).2.2 > 0 then _ else _) _
     unfold tokLt at hst ⊢
     rw [if_neg ht] at hst ⊢
     by_cases hn : endsBy t 62 = true
     ·rw [if_pos hn] at hst ⊢
      rw [ends_some hn [62, 91] (by simp)]
      refine Ev.congr (f := fun _ => some (stT s f (.sym (t.take (lets t)) 1, lets t + 2) d e p)) (fun k => ?_) (Ev.now _)
      rw [if_pos (show (((lets t + 1 : Nat) : Int)) > 0 by omega), if_neg (show ¬ ((62 : UInt8).toNat : Int) = 91 by decide)]
      show some (s, (f : Int), wrap64 (wrap64 ((f : Int) + 1) + ((lets t + 1 : Nat) : Int)), _) = _
      rw [w1, wrap_add (f + 1) (lets t + 1) (f + (lets t + 2)) (by omega) (by simp only at hst; omega)]
      rfl
     ·rw [if_neg hn] at hst ⊢
      have hn' : endsBy t 62 = false := by simpa using hn
      by_cases hm : endsBy t 91 = true
      ·rw [if_pos hm] at hst ⊢
       rw [ends_some hm [62, 91] (by simp)]
       refine Ev.congr (f := fun _ => some (stT s f (.nest (t.take (lets t)), lets t + 2) d e p)) (fun k => ?_) (Ev.now _)
       rw [if_pos (show (((lets t + 1 : Nat) : Int)) > 0 by omega), if_pos (show ((91 : UInt8).toNat : Int) = 91 by decide)]
       show some (s, (f : Int), wrap64 (wrap64 ((f : Int) + 1) + ((lets t + 1 : Nat) : Int)), _) = _
       rw [w1, wrap_add (f + 1) (lets t + 1) (f + (lets t + 2)) (by omega) (by simp only at hst; omega)]
       rfl
      ·rw [if_neg hm]
       have hm' : endsBy t 91 = false := by simpa using hm
       rw [ends_none (es := [62, 91]) (by simp) (by simp [hn', hm'])]
       exact Ev.congr (f := fun _ => some (stT s f (.bad, 0) d e p)) (fun k => by rw [if_neg (by decide)]; rfl) (Ev.now _)
   ·have hp : decide ((c :: t).take 2 = [60, 47]) = false := by
     rw [decide_eq_false_iff_not]
     intro h
     cases t with
     | nil => simp at h
     | cons a t2 => simp at h; exact hc h.1
    have hc60 : ¬ (c.toNat : Int) = 60 := fun h => hc (UInt8.toNat_inj.1 (by simpa using (by omega : c.toNat = 60)))
    rw [if_neg hc] at hst ⊢
    by_cases hc93 : c = 93
    ·subst hc93
     rw [if_pos rfl] at hst ⊢
     have hx2 : (B (93 :: t)).extract 1 (B (93 :: t)).size = B t := by
      rw [ext_from _ 1 (by rw [B_size]; simp), L_B]; rfl
     refine Ev.congr (fun k => by rw [start3, hp, if_neg (by decide), if_neg hc60, if_pos (by rfl), if_pos (by rw [B_size]; simp only [List.length_cons]; omega), hx2]) ?_
     refine Ev.bind (pnamed_ev (B t) _ (by rw [B_size]; omega)) ?_
     rw [L_B, L62]
     show Ev (fun k => if (namedT t [62]).2.2 > 0 then _ else _) _
     by_cases hn : endsBy t 62 = true
     ·rw [if_pos hn] at hst ⊢
      rw [ends_some hn [62] (by simp)]
      refine Ev.congr (f := fun _ => some (stT s f (.over (t.take (lets t)), lets t + 2) d e p)) (fun k => ?_) (Ev.now _)
      rw [if_pos (show (((lets t + 1 : Nat) : Int)) > 0 by omega)]
      show some (s, (f : Int), wrap64 (wrap64 ((f : Int) + 1) + ((lets t + 1 : Nat) : Int)), _) = _
      rw [w1, wrap_add (f + 1) (lets t + 1) (f + (lets t + 2)) (by omega) (by simp only at hst; omega)]
      rfl
     ·rw [if_neg hn]
      have hn' : endsBy t 62 = false := by simpa using hn
      rw [ends_none (es := [62]) (by simp) (by simpa using hn')]
      exact Ev.congr (f := fun _ => some (stT s f (.bad, 0) d e p)) (fun k => by rw [if_neg (by decide)]; rfl) (Ev.now _)
    ·have hcn93 : ¬ (c.toNat : Int) = 93 := fun h => hc93 (UInt8.toNat_inj.1 (by simpa using (by omega : c.toNat = 93)))
     rw [if_neg hc93] at hst ⊢
     refine Ev.congr (fun k => by rw [start3, hp, if_neg (by decide), if_neg hc60, if_neg hcn93]) ?_
     refine Ev.bind (pnamed_ev (B (c :: t)) _ (by rw [B_size]; exact hbig)) ?_
     rw [L_B, Lnil]
     show Ev (fun k => if (namedT (c :: t) []).2.2 > 0 then _ else _) _
     unfold namedT
     by_cases hn : okN (c :: t) = true
     ·rw [if_pos hn] at hst
      rw [if_pos hn, if_pos hn, if_pos rfl]
      have h1 : 1 ≤ lets (c :: t) := by simp [okN] at hn; omega
      refine Ev.congr (f := fun _ => some (stT s f (.sym ((c :: t).take (lets (c :: t))) 3, lets (c :: t)) d e p)) (fun k => ?_) (Ev.now _)
      rw [if_pos (show (((lets (c :: t) : Nat) : Int)) > 0 by omega)]
      show some (s, (f : Int), wrap64 ((f : Int) + ((lets (c :: t) : Nat) : Int)), _) = _
      have hst : f + lets (c :: t) ≤ s.size := hst
      rw [wrap_add f (lets (c :: t)) _ rfl (Nat.le_trans hst (Nat.le_trans hs (by decide)))]
      rfl
     ·rw [if_neg hn, if_neg hn]
      exact Ev.congr (f := fun _ => some (stT s f (.bad, 0) d e p)) (fun k => by rw [if_neg (by decide)]; rfl) (Ev.now _)
theorem l0_ev (x3 x4 : Int) (x5 : ByteArray) (x6 x7 d e p : Int) : ∀ (m q : Nat), q + m = s.size → Ev (fun k => expr_parser_next.l0 k l s (q : Int) x3 x4 x5 x6 x7 d e p) (st s (nx (L s) q) d e p) := by
 intro m
 induction m with
 | zero =>
  intro q hq
  have hn : nx (L s) q = q := nx_same (by rw [List.drop_eq_nil_of_le (by rw [L_len]; omega)]; simp)
  rw [hn]
  refine Ev.step (fun k => rfl) ?_
  exact Ev.congr (fun k => by rw [expr_parser_next.l0, if_neg (by omega)]) (j1_ev l s hs q (by omega) _ _ _ _ _ _ _ _)
 | succ m ih =>
  intro q hq
  have hlt : q < s.size := by omega
  have hl : q < (L s).length := by rw [L_len]; exact hlt
  have hb := bt_L s q hlt
  refine Ev.step (fun k => rfl) ?_
  by_cases h : (L s)[q] = 32
  ·have hn : nx (L s) q = nx (L s) (q + 1) := by
    unfold nx
    rw [List.drop_eq_getElem_cons hl, blk, if_pos h]
    omega
   rw [hn]
   refine Ev.congr (fun k => by rw [expr_parser_next.l0, if_pos (by omega), if_pos (by omega), if_pos (by rw [hb, h]; rfl), wrap_suc q s.size hlt (by omega)]) ?_
   exact ih (q + 1) (by omega)
  ·have hn : nx (L s) q = q := nx_same (by rw [List.drop_eq_getElem_cons hl, List.head?_cons]; exact fun e => h (Option.some.inj e))
   rw [hn]
   refine Ev.congr (fun k => by rw [expr_parser_next.l0, if_pos (by omega), if_pos (by omega), if_neg (by rw [hb]; intro h2; exact h (UInt8.toNat_inj.1 (by simpa using (by omega : ((L s)[q]).toNat = 32))))]) (j1_ev l s hs q (by omega) _ _ _ _ _ _ _ _)
theorem next_ev (q : Nat) (hq : q ≤ s.size) (x2 x4 : Int) (x5 : ByteArray) (x6 x7 d e p : Int) : Ev (fun k => expr_parser_next.f k l s x2 (q : Int) x4 x5 x6 x7 d e p) (st s (nx (L s) q) d e p) :=
 l0_ev l s hs _ _ _ _ _ _ _ _ (s.size - q) q (by omega)
end
theorem tok_cases (t : List UInt8) : (tokAt t).1 = .eof ∨ (tokAt t).1 = .bad ∨ (∃ c, tokAt t = (.one c, 1)) ∨ (1 ≤ (tokAt t).2 ∧ ∀ c, (tokAt t).1.isOne c = false) := by
 cases t with
 | nil => exact .inl rfl
 | cons c t =>
  rw [tokAt]
  unfold tokLt
  repeat' split
  all_goals first
   | exact .inr (.inr (.inl ⟨_, rfl⟩))
   | exact .inr (.inl rfl)
   | (refine .inr (.inr (.inr ⟨?_, fun _ => rfl⟩)); first | (simp only; omega) | (rename_i h; simp [okN] at h; simp only; omega))
theorem tok_pos {t : List UInt8} (h : (tokAt t).1.isEof = false) (h2 : (tokAt t).1.K ≠ 2) : 1 ≤ (tokAt t).2 := by
 rcases tok_cases t with e | e | ⟨c, e⟩ | e
 ·rw [e] at h; cases h
 ·rw [e] at h2; exact absurd rfl h2
 ·rw [e]; exact Nat.le_refl _
 ·exact e.1
theorem nx_ge (s : List UInt8) (q : Nat) : q ≤ nx s q := Nat.le_add_right _ _
theorem nx_step {s : List UInt8} {f m : Nat} {t : Tk} (h : tokAt (s.drop f) = (t, m)) (h1 : t.isEof = false) (h2 : t.K ≠ 2) (hf : f ≤ s.length) : f < nx s (f + m) ∧ nx s (f + m) ≤ s.length := by
 have a := tok_pos (t := s.drop f) (by rw [h]; exact h1) (by rw [h]; exact h2)
 have b := tok_le s f hf
 rw [h] at a b
 have c := nx_ge s (f + m)
 have d := nx_le s (f + m) b
 simp only at a
 exact ⟨by omega, d⟩
theorem one_step {s : List UInt8} {f : Nat} {c : UInt8} (h : (tokAt (s.drop f)).1.isOne c = true) (hf : f ≤ s.length) : f < nx s (f + 1) ∧ nx s (f + 1) ≤ s.length ∧ tokAt (s.drop f) = (.one c, 1) := by
 have key : ∀ t : List UInt8, (tokAt t).1.isOne c = true → tokAt t = (.one c, 1) := by
  intro t ht
  rcases tok_cases t with e | e | ⟨b, e⟩ | e
  ·rw [e] at ht; cases ht
  ·rw [e] at ht; cases ht
  ·rw [e] at ht ⊢
   simp only [Tk.isOne, beq_iff_eq] at ht
   rw [ht]
  ·rw [e.2 c] at ht; cases ht
 have e := key _ h
 have := nx_step e rfl (by simp [Tk.K]) hf
 exact ⟨this.1, this.2, e⟩
theorem several_size {k : Int} {xs : List S28} {B0 : Nat} (h0 : xs ≠ []) (h : tsizeL xs + xs.length ≤ B0) : tsize (severalT k xs) + 1 ≤ B0 := by
 unfold severalT
 split
 ·rw [tsizeL, tsizeL] at h
  simpa using h
 ·rename_i h1
  cases xs with
  | nil => exact absurd rfl h0
  | cons x xs =>
   cases xs with
   | nil => exact absurd rfl (h1 x)
   | cons y ys =>
    rw [tsize]
    simp only [List.length_cons] at h
    omega
theorem tsizeL_snoc (x : S28) : ∀ xs : List S28, tsizeL (xs ++ [x]) = tsizeL xs + tsize x
 | [] => by simp [tsizeL]
 | y :: ys => by rw [List.cons_append, tsizeL, tsizeL, tsizeL_snoc x ys]; omega
theorem Rs.and_ok {r : Option Rs} {g : S28 → Nat → Option Rs} {v : S28} {p : Nat} (h : Rs.and r g = some (.ok v p)) : ∃ x q, r = some (.ok x q) ∧ g x q = some (.ok v p) := by
 cases r with
 | none => simp [Rs.and] at h
 | some r =>
  cases r with
  | ok x q => exact ⟨x, q, rfl, h⟩
  | err e q => simp [Rs.and] at h
section
variable (l : List S56) (s : List UInt8)
structure Bnd (n : Nat) : Prop where
 atom : ∀ d f v g, f ≤ s.length → aAtom l s n d f = some (.ok v g) → tsize v + 1 + 2 * f ≤ 2 * g ∧ g ≤ s.length
 rep : ∀ d f v g, f ≤ s.length → aRep l s n d f = some (.ok v g) → tsize v + 1 + 2 * f ≤ 2 * g ∧ g ≤ s.length
 cat : ∀ d f v g, f ≤ s.length → aCat l s n d f = some (.ok v g) → tsize v + 1 + 2 * f ≤ 2 * g ∧ g ≤ s.length
 or : ∀ d f v g, f ≤ s.length → aOr l s n d f = some (.ok v g) → tsize v + 1 + 2 * f ≤ 2 * g ∧ g ≤ s.length
 stars : ∀ f0 x f v g, f ≤ s.length → tsize x + 1 + 2 * f0 ≤ 2 * f → aStars l s n x f = some (.ok v g) → tsize v + 1 + 2 * f0 ≤ 2 * g ∧ g ≤ s.length
 cats : ∀ f0 d acc f v g, f ≤ s.length → acc ≠ [] → tsizeL acc + acc.length + 2 * f0 ≤ 2 * f → aCats l s n d acc f = some (.ok v g) → tsize v + 1 + 2 * f0 ≤ 2 * g ∧ g ≤ s.length
 ors : ∀ f0 d acc f v g, f ≤ s.length → acc ≠ [] → tsizeL acc + acc.length + 2 * f0 ≤ 2 * f → aOrs l s n d acc f = some (.ok v g) → tsize v + 1 + 2 * f0 ≤ 2 * g ∧ g ≤ s.length
theorem bnd : ∀ n, Bnd l s n
 | 0 => by constructor <;> intros <;> simp_all [aAtom, aRep, aCat, aOr, aStars, aCats, aOrs]
 | n + 1 => by
  have ih := bnd n
  constructor
  ·intro d f v g hf h
   rw [aAtom] at h
   split at h
   ·rename_i c m ht
    split at h
    ·rename_i hc
     subst hc
     injection h with h; injection h with h1 h2
     subst h1; subst h2
     have := one_step (s := s) (f := f) (c := 48) (by rw [ht]; rfl) hf
     rw [tsize, tsizeL]; omega
    ·split at h
     ·rename_i _ hc
      subst hc
      injection h with h; injection h with h1 h2
      subst h1; subst h2
      have := one_step (s := s) (f := f) (c := 49) (by rw [ht]; rfl) hf
      rw [tsize, tsizeL]; omega
     ·split at h
      ·rename_i _ _ hc
       subst hc
       split at h
       ·simp at h
       ·obtain ⟨x, q, h1, h2⟩ := Rs.and_ok h
        have a := one_step (s := s) (f := f) (c := 40) (by rw [ht]; rfl) hf
        have b := ih.or _ _ _ _ a.2.1 h1
        split at h2
        ·rename_i hq
         injection h2 with h2; injection h2 with h3 h4
         subst h3; subst h4
         have e := one_step hq b.2
         omega
        ·simp at h2
      ·simp at h
   ·rename_i nm k m ht
    split at h
    ·injection h with h; injection h with h1 h2
     subst h1; subst h2
     have := nx_step ht rfl (by simp [Tk.K]) hf
     rw [tsize, tsizeL]; omega
    ·simp at h
   ·rename_i nm m ht
    split at h
    ·simp at h
    ·split at h
     ·simp at h
     ·obtain ⟨x, q, h1, h2⟩ := Rs.and_ok h
      have a := nx_step ht rfl (by simp [Tk.K]) hf
      have b := ih.or _ _ _ _ a.2 h1
      split at h2
      ·rename_i nm2 m2 ht2
       split at h2
       ·injection h2 with h2; injection h2 with h3 h4
        subst h3; subst h4
        have e := nx_step ht2 rfl (by simp [Tk.K]) b.2
        rw [tsize, tsizeL, tsizeL]; omega
       ·simp at h2
      ·simp at h2
   ·simp at h
  ·intro d f v g hf h
   rw [aRep] at h
   obtain ⟨x, q, h1, h2⟩ := Rs.and_ok h
   have a := ih.atom _ _ _ _ hf h1
   exact ih.stars f x q v g a.2 a.1 h2
  ·intro d f v g hf h
   rw [aCat] at h
   obtain ⟨x, q, h1, h2⟩ := Rs.and_ok h
   have a := ih.rep _ _ _ _ hf h1
   exact ih.cats f d [x] q v g a.2 (by simp) (by rw [tsizeL, tsizeL]; simp only [List.length_singleton]; omega) h2
  ·intro d f v g hf h
   rw [aOr] at h
   obtain ⟨x, q, h1, h2⟩ := Rs.and_ok h
   have a := ih.cat _ _ _ _ hf h1
   exact ih.ors f d [x] q v g a.2 (by simp) (by rw [tsizeL, tsizeL]; simp only [List.length_singleton]; omega) h2
  ·intro f0 x f v g hf h0 h
   rw [aStars] at h
   split at h
   ·rename_i hq
    have a := one_step hq hf
    exact ih.stars f0 _ _ v g a.2.1 (by rw [tsize, tsizeL, tsizeL]; omega) h
   ·injection h with h; injection h with h1 h2
    subst h1; subst h2
    exact ⟨h0, hf⟩
  ·intro f0 d acc f v g hf hne h0 h
   rw [aCats] at h
   split at h
   ·obtain ⟨x, q, h1, h2⟩ := Rs.and_ok h
    have a := ih.rep _ _ _ _ hf h1
    exact ih.cats f0 d _ q v g a.2 (by simp) (by rw [tsizeL_snoc, List.length_append, List.length_singleton]; omega) h2
   ·injection h with h; injection h with h1 h2
    subst h1; subst h2
    have := several_size (k := 5) (B0 := 2 * f - 2 * f0) hne (by omega)
    have : 1 ≤ tsizeL acc := by
     cases acc with
     | nil => exact absurd rfl hne
     | cons x xs => rw [tsizeL, tsize_eq]; omega
    omega
  ·intro f0 d acc f v g hf hne h0 h
   rw [aOrs] at h
   split at h
   ·rename_i hq
    have b := one_step hq hf
    obtain ⟨x, q, h1, h2⟩ := Rs.and_ok h
    have a := ih.cat _ _ _ _ b.2.1 h1
    exact ih.ors f0 d _ q v g a.2 (by simp) (by rw [tsizeL_snoc, List.length_append, List.length_singleton]; omega) h2
   ·injection h with h; injection h with h1 h2
    subst h1; subst h2
    have := several_size (k := 6) (B0 := 2 * f - 2 * f0) hne (by omega)
    have : 1 ≤ tsizeL acc := by
     cases acc with
     | nil => exact absurd rfl hne
     | cons x xs => rw [tsizeL, tsize_eq]; omega
    omega
end
abbrev PR := Int × Int × Int × List S28 × PS
def nextW (k : Nat) (l : List S56) (σ : PS) : Option PS := expr_parser_next.f k l σ.1 σ.2.1 σ.2.2.1 σ.2.2.2.1 σ.2.2.2.2.1 σ.2.2.2.2.2.1 σ.2.2.2.2.2.2.1 σ.2.2.2.2.2.2.2.1 σ.2.2.2.2.2.2.2.2.1 σ.2.2.2.2.2.2.2.2.2
def withinW (k : Nat) (l : List S56) (σ : PS) : Option PR := expr_parser_within.f k l σ.1 σ.2.1 σ.2.2.1 σ.2.2.2.1 σ.2.2.2.2.1 σ.2.2.2.2.2.1 σ.2.2.2.2.2.2.1 σ.2.2.2.2.2.2.2.1 σ.2.2.2.2.2.2.2.2.1 σ.2.2.2.2.2.2.2.2.2
def within0W (k : Nat) (l : List S56) (σ : PS) : Option PR := expr_parser_within.j0 k l σ.1 σ.2.1 σ.2.2.1 σ.2.2.2.1 σ.2.2.2.2.1 σ.2.2.2.2.2.1 σ.2.2.2.2.2.2.1 σ.2.2.2.2.2.2.2.1 σ.2.2.2.2.2.2.2.2.1 σ.2.2.2.2.2.2.2.2.2
def atomW (k : Nat) (l : List S56) (σ : PS) : Option PR := expr_parser_atom.f k l σ.1 σ.2.1 σ.2.2.1 σ.2.2.2.1 σ.2.2.2.2.1 σ.2.2.2.2.2.1 σ.2.2.2.2.2.2.1 σ.2.2.2.2.2.2.2.1 σ.2.2.2.2.2.2.2.2.1 σ.2.2.2.2.2.2.2.2.2
def repW (k : Nat) (l : List S56) (σ : PS) : Option PR := expr_parser_rep.f k l σ.1 σ.2.1 σ.2.2.1 σ.2.2.2.1 σ.2.2.2.2.1 σ.2.2.2.2.2.1 σ.2.2.2.2.2.2.1 σ.2.2.2.2.2.2.2.1 σ.2.2.2.2.2.2.2.2.1 σ.2.2.2.2.2.2.2.2.2
def catW (k : Nat) (l : List S56) (σ : PS) : Option PR := expr_parser_cat.f k l σ.1 σ.2.1 σ.2.2.1 σ.2.2.2.1 σ.2.2.2.2.1 σ.2.2.2.2.2.1 σ.2.2.2.2.2.2.1 σ.2.2.2.2.2.2.2.1 σ.2.2.2.2.2.2.2.2.1 σ.2.2.2.2.2.2.2.2.2
def orW (k : Nat) (l : List S56) (σ : PS) : Option PR := expr_parser_or.f k l σ.1 σ.2.1 σ.2.2.1 σ.2.2.2.1 σ.2.2.2.2.1 σ.2.2.2.2.2.1 σ.2.2.2.2.2.2.1 σ.2.2.2.2.2.2.2.1 σ.2.2.2.2.2.2.2.2.1 σ.2.2.2.2.2.2.2.2.2
def symW (k : Nat) (l : List S56) (σ : PS) : Option (Int × PS) := expr_parser_sym.f k l σ.1 σ.2.1 σ.2.2.1 σ.2.2.2.1 σ.2.2.2.2.1 σ.2.2.2.2.2.1 σ.2.2.2.2.2.2.1 σ.2.2.2.2.2.2.2.1 σ.2.2.2.2.2.2.2.2.1 σ.2.2.2.2.2.2.2.2.2
def repL (k : Nat) (l : List S56) (σ : PS) (x : S28) : Option PR := expr_parser_rep.l0 k l σ.1 σ.2.1 σ.2.2.1 σ.2.2.2.1 σ.2.2.2.2.1 σ.2.2.2.2.2.1 σ.2.2.2.2.2.2.1 σ.2.2.2.2.2.2.2.1 σ.2.2.2.2.2.2.2.2.1 σ.2.2.2.2.2.2.2.2.2 x.f0 x.f1 x.f2 x.f3
def catL (k : Nat) (acc : List S28) (l : List S56) (σ : PS) : Option PR := expr_parser_cat.l0 k acc l σ.1 σ.2.1 σ.2.2.1 σ.2.2.2.1 σ.2.2.2.2.1 σ.2.2.2.2.2.1 σ.2.2.2.2.2.2.1 σ.2.2.2.2.2.2.2.1 σ.2.2.2.2.2.2.2.2.1 σ.2.2.2.2.2.2.2.2.2
def orL (k : Nat) (acc : List S28) (l : List S56) (σ : PS) : Option PR := expr_parser_or.l0 k acc l σ.1 σ.2.1 σ.2.2.1 σ.2.2.2.1 σ.2.2.2.2.1 σ.2.2.2.2.2.1 σ.2.2.2.2.2.2.1 σ.2.2.2.2.2.2.2.1 σ.2.2.2.2.2.2.2.2.1 σ.2.2.2.2.2.2.2.2.2
def orJ (k : Nat) (acc : List S28) (b : Bool) (l : List S56) (σ : PS) : Option PR := expr_parser_or.j1 k acc b l σ.1 σ.2.1 σ.2.2.1 σ.2.2.2.1 σ.2.2.2.2.1 σ.2.2.2.2.2.1 σ.2.2.2.2.2.2.1 σ.2.2.2.2.2.2.2.1 σ.2.2.2.2.2.2.2.2.1 σ.2.2.2.2.2.2.2.2.2
def isB (σ : PS) (c : Int) : Bool := σ.2.2.2.1 == 3 && ((σ.2.2.2.2.1.toList == ([] : List UInt8) && (σ.2.2.2.2.2.1 == 0)) && (σ.2.2.2.2.2.2.1 == c))
def errOf (σ : PS) : Int := σ.2.2.2.2.2.2.2.2.1
def wrongS (σ : PS) (e : Int) : PS := if errOf σ = 0 then (σ.1, σ.2.1, σ.2.2.1, σ.2.2.2.1, σ.2.2.2.2.1, σ.2.2.2.2.2.1, σ.2.2.2.2.2.2.1, σ.2.2.2.2.2.2.2.1, e, σ.2.1) else σ
def deepBy (σ : PS) (i : Int) : PS := (σ.1, σ.2.1, σ.2.2.1, σ.2.2.2.1, σ.2.2.2.2.1, σ.2.2.2.2.2.1, σ.2.2.2.2.2.2.1, wrap64 (σ.2.2.2.2.2.2.2.1 + i), σ.2.2.2.2.2.2.2.2.1, σ.2.2.2.2.2.2.2.2.2)
def res (x : S28) (σ : PS) : PR := (x.f0, x.f1, x.f2, x.f3, σ)
def exOf (r : PR) : S28 := ⟨r.1, r.2.1, r.2.2.1, r.2.2.2.1⟩
def begB (σ : PS) : Bool := isB σ 48 || isB σ 49 || isB σ 40 || σ.2.2.2.1 == 4 || σ.2.2.2.1 == 5
theorem is_eq (l : List S56) (a : ByteArray) (b c d : Int) (e : ByteArray) (f g h i j ch : Int) : expr_parser_is.f l a b c d e f g h i j ch = some (isB (a, b, c, d, e, f, g, h, i, j) ch, a, b, c, d, e, f, g, h, i, j) := rfl
theorem wrong_eq (l : List S56) (a : ByteArray) (b c d : Int) (e : ByteArray) (f g h i j ch : Int) : expr_parser_wrong.f l a b c d e f g h i j ch = some (wrongS (a, b, c, d, e, f, g, h, i, j) ch) := by
 unfold expr_parser_wrong.f wrongS
 show _ = some (if i = 0 then _ else _)
 split <;> rfl
theorem begins_eq (l : List S56) (a : ByteArray) (b c d : Int) (e : ByteArray) (f g h i j : Int) : expr_parser_begins.f l a b c d e f g h i j = some (begB (a, b, c, d, e, f, g, h, i, j), a, b, c, d, e, f, g, h, i, j) := by
 unfold expr_parser_begins.f begB
 simp only [is_eq, Option.bind_some]
 cases isB (a, b, c, d, e, f, g, h, i, j) 48 <;> cases isB (a, b, c, d, e, f, g, h, i, j) 49 <;> cases isB (a, b, c, d, e, f, g, h, i, j) 40 <;> simp
 by_cases h4 : d = 4 <;> simp [h4]
theorem several_eq (k : Int) (xs : List S28) (h : xs ≠ []) : expr_several.f k xs = some ((severalT k xs).f0, (severalT k xs).f1, (severalT k xs).f2, (severalT k xs).f3) := by
 unfold expr_several.f severalT
 cases xs with
 | nil => exact absurd rfl h
 | cons x t =>
  cases t with
  | nil => simp [rd_T28]
  | cons y ys =>
   rw [if_neg (by simp only [List.length_cons]; omega), Int.toNat_natCast, List.take_length]
section
variable (k : Nat) (l : List S56) (σ : PS)
theorem within_step : withinW (k + 1) l σ = if σ.2.2.2.2.2.2.2.1 > 40 then within0W k l (wrongS σ 3) else within0W k l σ := by
 unfold withinW within0W
 rw [expr_parser_within.f]
 simp only [wrong_eq, Option.bind_some]
theorem within0_step : within0W (k + 1) l σ = if errOf σ = 0 then (nextW k l (deepBy σ 1)).bind fun τ => (orW k l τ).bind fun r => some (r.1, r.2.1, r.2.2.1, r.2.2.2.1, deepBy r.2.2.2.2 (-1)) else some (0, 0, 0, [], σ) := by
 unfold within0W
 rw [expr_parser_within.j0]
 rfl
theorem atom_step : atomW (k + 1) l σ = if isB σ 48 = true then (nextW k l σ).bind fun τ => some (res ⟨1, 0, 0, []⟩ τ)
  else if isB σ 49 = true then (nextW k l σ).bind fun τ => some (res ⟨2, 0, 0, []⟩ τ)
  else if isB σ 40 = true then (withinW k l σ).bind fun r => if isB r.2.2.2.2 41 = true then (nextW k l r.2.2.2.2).bind fun τ => some (res (exOf r) τ) else (nextW k l (wrongS r.2.2.2.2 1)).bind fun τ => some (res (exOf r) τ)
  else if σ.2.2.2.1 = 4 then (symW k l σ).bind fun z => (nextW k l z.2).bind fun τ => some (res ⟨3, z.1, 0, []⟩ τ)
  else if σ.2.2.2.1 = 5 then (symW k l σ).bind fun z => (withinW k l z.2).bind fun r => if r.2.2.2.2.2.2.2.1 = 6 then (symW k l r.2.2.2.2).bind fun y => (nextW k l y.2).bind fun τ => some (res ⟨4, z.1, y.1, [exOf r]⟩ τ) else (nextW k l (wrongS r.2.2.2.2 1)).bind fun τ => some (res ⟨4, z.1, 0, [exOf r]⟩ τ)
  else (nextW k l (wrongS σ 1)).bind fun τ => some (res ⟨0, 0, 0, []⟩ τ) := by
 unfold atomW
 rw [expr_parser_atom.f]
 simp only [is_eq, wrong_eq, Option.bind_some]
 rfl
theorem rep_step : repW (k + 1) l σ = (atomW k l σ).bind fun r => repL k l r.2.2.2.2 (exOf r) := by
 unfold repW
 rw [expr_parser_rep.f]
 rfl
theorem repL_step (x : S28) : repL (k + 1) l σ x = if errOf σ = 0 then (if isB σ 42 = true then (nextW k l σ).bind fun τ => repL k l τ ⟨7, 0, 0, [x]⟩ else some (res x σ)) else some (res x σ) := by
 cases x
 unfold repL
 rw [expr_parser_rep.l0]
 simp only [is_eq, Option.bind_some]
 rfl
theorem cat_step : catW (k + 1) l σ = (repW k l σ).bind fun r => catL k [exOf r] l r.2.2.2.2 := by
 unfold catW
 rw [expr_parser_cat.f]
 rfl
theorem catL_step (acc : List S28) (h : acc ≠ []) : catL (k + 1) acc l σ = if errOf σ = 0 then (if begB σ = true then (repW k l σ).bind fun r => if acc.length < 2932031007402 then catL k (acc ++ [exOf r]) l r.2.2.2.2 else none else some (res (severalT 5 acc) σ)) else some (res (severalT 5 acc) σ) := by
 unfold catL
 rw [expr_parser_cat.l0]
 simp only [begins_eq, Option.bind_some, several_eq 5 acc h]
 rfl
theorem or_step : orW (k + 1) l σ = (catW k l σ).bind fun r => orL k [exOf r] l r.2.2.2.2 := by
 unfold orW
 rw [expr_parser_or.f]
 rfl
theorem orL_step (acc : List S28) : orL (k + 1) acc l σ = if errOf σ = 0 then orJ k acc (isB σ 124) l σ else orJ k acc false l σ := by
 unfold orL
 rw [expr_parser_or.l0]
 simp only [is_eq, Option.bind_some]
 rfl
theorem orJ_step (acc : List S28) (b : Bool) (h : acc ≠ []) : orJ (k + 1) acc b l σ = if b = true then (nextW k l σ).bind fun τ => (catW k l τ).bind fun r => if acc.length < 2932031007402 then orL k (acc ++ [exOf r]) l r.2.2.2.2 else none else some (res (severalT 6 acc) σ) := by
 unfold orJ
 rw [expr_parser_or.j1]
 simp only [Option.bind_some, several_eq 6 acc h]
 rfl
end
section
variable {l : List S56} {s : ByteArray}
theorem st_is {f m : Nat} {t : Tk} {d e p ch : Int} {c : UInt8} (ht : tokAt ((L s).drop f) = (t, m)) (hc : ch = (c.toNat : Int)) : isB (st s f d e p) ch = t.isOne c := by
 have h1 : isB (st s f d e p) ch = (t.K == 3 && ((t.N.toList == ([] : List UInt8) && (t.S == 0)) && (t.C == ch))) := by
  unfold isB st stT
  rw [ht]
 rw [h1, hc]
 cases t with
 | one b =>
  show ((3 : Int) == 3 && (((⟨#[]⟩ : ByteArray).toList == ([] : List UInt8) && ((0 : Int) == 0)) && ((b.toNat : Int) == (c.toNat : Int)))) = (b == c)
  rw [toL, Lnil]
  have : ((b.toNat : Int) == (c.toNat : Int)) = (b == c) := by
   rw [Bool.eq_iff_iff]
   simp only [beq_iff_eq]
   constructor
   ·intro h; exact UInt8.toNat_inj.1 (by omega)
   ·intro h; rw [h]
  rw [this]
  rfl
 | _ => rfl
theorem st_K {f m : Nat} {t : Tk} {d e p : Int} (ht : tokAt ((L s).drop f) = (t, m)) : (st s f d e p).2.2.2.1 = t.K := by unfold st; rw [ht]; rfl
theorem st_beg {f m : Nat} {t : Tk} {d e p : Int} (ht : tokAt ((L s).drop f) = (t, m)) : begB (st s f d e p) = t.begins := by
 unfold begB
 rw [st_is (ch := 48) (c := 48) ht rfl, st_is (ch := 49) (c := 49) ht rfl, st_is (ch := 40) (c := 40) ht rfl, st_K ht]
 cases t with
 | one b => simp [Tk.isOne, Tk.begins, Tk.K]
 | _ => rfl
theorem wrong_st (f : Nat) (d e : Int) : wrongS (st s f d 0 0) e = st s f d e (f : Int) := rfl
theorem wrong_no {f : Nat} {d e p e2 : Int} (h : e ≠ 0) : wrongS (st s f d e p) e2 = st s f d e p := by
 unfold wrongS
 exact if_neg h
theorem nextW_st (hs : s.size ≤ 2000) {f m : Nat} {t : Tk} {d e p : Int} (ht : tokAt ((L s).drop f) = (t, m)) (hf : f ≤ s.size) : Ev (fun k => nextW k l (st s f d e p)) (st s (nx (L s) (f + m)) d e p) := by
 have h := tok_le (L s) f (by rw [L_len]; exact hf)
 rw [ht, L_len] at h
 have := next_ev l s hs (f + m) h (st s f d e p).2.1 (st s f d e p).2.2.2.1 (st s f d e p).2.2.2.2.1 (st s f d e p).2.2.2.2.2.1 (st s f d e p).2.2.2.2.2.2.1 d e p
 have e1 : ((f + m : Nat) : Int) = (st s f d e p).2.2.1 := by unfold st; rw [ht]; rfl
 rw [e1] at this
 exact this
theorem nx_fit {f m : Nat} {t : Tk} (ht : tokAt ((L s).drop f) = (t, m)) (hf : f ≤ s.size) : nx (L s) (f + m) ≤ s.size := by
 have h := tok_le (L s) f (by rw [L_len]; exact hf)
 rw [ht] at h
 have := nx_le (L s) (f + m) h
 rwa [L_len] at this
theorem sym_l0 (hl : l.length ≤ 1000) (σ : PS) (nm : List UInt8) (hn : σ.2.2.2.2.1 = B nm) : ∀ (m i : Nat), i + m = l.length →
  Ev (fun k => expr_parser_sym.l0 k l (l.length : Int) (i : Int) l σ.1 σ.2.1 σ.2.2.1 σ.2.2.2.1 σ.2.2.2.2.1 σ.2.2.2.2.2.1 σ.2.2.2.2.2.2.1 σ.2.2.2.2.2.2.2.1 σ.2.2.2.2.2.2.2.2.1 σ.2.2.2.2.2.2.2.2.2)
   (match findT (l.drop i) nm σ.2.2.2.2.2.1 i with | some j => (j, σ) | none => (0, wrongS σ 6)) := by
 intro m
 induction m with
 | zero =>
  intro i hi
  rw [List.drop_eq_nil_of_le (by omega)]
  refine Ev.step (fun k => rfl) ?_
  refine Ev.congr (f := fun _ => some (0, wrongS σ 6)) (fun k => ?_) (Ev.now _)
  rw [expr_parser_sym.l0, if_neg (by omega), wrong_eq, Option.bind_some]
 | succ m ih =>
  intro i hi
  have hlt : i < l.length := by omega
  have hr : rd_T56 l (i : Int) = l[i] := rd56_get hlt
  rw [List.drop_eq_getElem_cons hlt, findT]
  refine Ev.step (fun k => rfl) ?_
  have hb : (((rd_T56 l (i : Int)).f0.toList == σ.2.2.2.2.1.toList && ((rd_T56 l (i : Int)).f1 == σ.2.2.2.2.2.1)) = true) ↔ (l[i].f0.data.toList = nm ∧ l[i].f1 = σ.2.2.2.2.2.1) := by
   rw [hr, hn, toL, toL, L_B, Bool.and_eq_true, beq_iff_eq, beq_iff_eq]
   exact Iff.rfl
  by_cases h : l[i].f0.data.toList = nm ∧ l[i].f1 = σ.2.2.2.2.2.1
  ·rw [if_pos h]
   exact Ev.congr (f := fun _ => some ((i : Int), σ)) (fun k => by rw [expr_parser_sym.l0, if_pos (by omega), if_pos (by omega), if_pos (by omega), if_pos (hb.mpr h)]) (Ev.now _)
  ·rw [if_neg h]
   refine Ev.congr (fun k => by rw [expr_parser_sym.l0, if_pos (by omega), if_pos (by omega), if_pos (by omega), if_neg (fun q => h (hb.mp q)), wrap_suc i l.length hlt (by omega)]) ?_
   exact ih (i + 1) (by omega)
theorem symW_st (hl : l.length ≤ 1000) {f m : Nat} {t : Tk} {nm : List UInt8} {k9 d e p : Int} (ht : tokAt ((L s).drop f) = (t, m)) (hN : t.N = B nm) (hS : t.S = k9) : Ev (fun k => symW k l (st s f d e p)) (match findT l nm k9 0 with | some j => (j, st s f d e p) | none => (0, wrongS (st s f d e p) 6)) := by
 have := sym_l0 hl (st s f d e p) nm (by unfold st; rw [ht]; exact hN) l.length 0 (by omega)
 have e2 : (st s f d e p).2.2.2.2.2.1 = k9 := by unfold st; rw [ht]; exact hS
 rw [List.drop_zero, e2] at this
 have e3 := this
 unfold symW expr_parser_sym.f
 rw [← e2] at e3 ⊢
 exact e3
def Out (s : ByteArray) (d : Int) (F : Nat → Option PR) : Rs → Prop
 | .ok v g => g ≤ s.size ∧ Ev F (res v (st s g d 0 0))
 | .err e p => e ≠ 0 ∧ ∃ x g, g ≤ s.size ∧ Ev F (res x (st s g d e (p : Int)))
theorem Out.step {d : Int} {F G : Nat → Option PR} {r : Rs} (h : ∀ k, F (k + 1) = G k) (o : Out s d G r) : Out s d F r := by
 cases r with
 | ok v g => exact ⟨o.1, Ev.step h o.2⟩
 | err e p => obtain ⟨o1, x, g, o2, o3⟩ := o; exact ⟨o1, x, g, o2, Ev.step h o3⟩
theorem Out.congr {d : Int} {F G : Nat → Option PR} {r : Rs} (h : ∀ k, F k = G k) (o : Out s d G r) : Out s d F r := by
 have : F = G := funext h
 rw [this]; exact o
theorem Out.bind {α : Type} {d : Int} {F : Nat → Option α} {C : Nat → α → Option PR} {a : α} {r : Rs} (h : Ev F a) (o : Out s d (fun k => C k a) r) : Out s d (fun k => (F k).bind (C k)) r := by
 cases r with
 | ok v g => exact ⟨o.1, Ev.bind h o.2⟩
 | err e p => obtain ⟨o1, x, g, o2, o3⟩ := o; exact ⟨o1, x, g, o2, Ev.bind h o3⟩
theorem Rs.and_cases {r : Option Rs} {g : S28 → Nat → Option Rs} {v : Rs} (h : Rs.and r g = some v) : (∃ x q, r = some (.ok x q) ∧ g x q = some v) ∨ (∃ e p, r = some (.err e p) ∧ v = .err e p) := by
 cases r with
 | none => simp [Rs.and] at h
 | some r =>
  cases r with
  | ok x q => exact .inl ⟨x, q, rfl, h⟩
  | err e q => exact .inr ⟨e, q, rfl, by simpa [Rs.and] using h.symm⟩
structure Sim (l : List S56) (s : ByteArray) (n : Nat) : Prop where
 atom : ∀ (d f : Nat) r, f ≤ s.size → d ≤ 41 → aAtom l (L s) n d f = some r → Out s d (fun k => atomW k l (st s f d 0 0)) r
 rep : ∀ (d f : Nat) r, f ≤ s.size → d ≤ 41 → aRep l (L s) n d f = some r → Out s d (fun k => repW k l (st s f d 0 0)) r
 cat : ∀ (d f : Nat) r, f ≤ s.size → d ≤ 41 → aCat l (L s) n d f = some r → Out s d (fun k => catW k l (st s f d 0 0)) r
 or : ∀ (d f : Nat) r, f ≤ s.size → d ≤ 41 → aOr l (L s) n d f = some r → Out s d (fun k => orW k l (st s f d 0 0)) r
 stars : ∀ (d f : Nat) x r, f ≤ s.size → aStars l (L s) n x f = some r → Out s d (fun k => repL k l (st s f d 0 0) x) r
 cats : ∀ (d f : Nat) acc r, f ≤ s.size → d ≤ 41 → acc ≠ [] → acc.length ≤ f → aCats l (L s) n d acc f = some r → Out s d (fun k => catL k acc l (st s f d 0 0)) r
 ors : ∀ (d f : Nat) acc r, f ≤ s.size → d ≤ 41 → acc ≠ [] → acc.length ≤ f → aOrs l (L s) n d acc f = some r → Out s d (fun k => orL k acc l (st s f d 0 0)) r
theorem repL_err {σ : PS} (x : S28) (h : errOf σ ≠ 0) : Ev (fun k => repL k l σ x) (res x σ) :=
 Ev.step (fun k => repL_step k l σ x) (Ev.congr (f := fun _ => some (res x σ)) (fun k => by rw [if_neg h]) (Ev.now _))
theorem catL_err {σ : PS} {acc : List S28} (ha : acc ≠ []) (h : errOf σ ≠ 0) : Ev (fun k => catL k acc l σ) (res (severalT 5 acc) σ) :=
 Ev.step (fun k => catL_step k l σ acc ha) (Ev.congr (f := fun _ => some (res (severalT 5 acc) σ)) (fun k => by rw [if_neg h]) (Ev.now _))
theorem orL_err {σ : PS} {acc : List S28} (ha : acc ≠ []) (h : errOf σ ≠ 0) : Ev (fun k => orL k acc l σ) (res (severalT 6 acc) σ) :=
 Ev.step (fun k => orL_step k l σ acc) (Ev.congr (f := fun k => orJ k acc false l σ) (fun k => by rw [if_neg h]) (Ev.step (fun k => orJ_step k l σ acc false ha) (Ev.congr (f := fun _ => some (res (severalT 6 acc) σ)) (fun k => by rw [if_neg (by decide)]) (Ev.now _))))
theorem within_err {f : Nat} {d e p : Int} (h : e ≠ 0) : Ev (fun k => withinW k l (st s f d e p)) (res ⟨0, 0, 0, []⟩ (st s f d e p)) := by
 refine Ev.step (fun k => within_step k l _) ?_
 rw [wrong_no h]
 refine Ev.congr (f := fun k => within0W k l (st s f d e p)) (fun k => by split <;> rfl) ?_
 refine Ev.step (fun k => within0_step k l _) ?_
 exact Ev.congr (f := fun _ => some (res ⟨0, 0, 0, []⟩ (st s f d e p))) (fun k => by rw [if_neg (show ¬ errOf (st s f d e p) = 0 from h)]; rfl) (Ev.now _)
theorem within_out (hs : s.size ≤ 2000) {n d f m : Nat} {t : Tk} (ih : Sim l s n) (ht : tokAt ((L s).drop f) = (t, m)) (hf : f ≤ s.size) (hd : ¬ 40 < d) {r : Rs} (h : aOr l (L s) n (d + 1) (nx (L s) (f + m)) = some r) : Out s d (fun k => withinW k l (st s f d 0 0)) r := by
 have w1 : wrap64 ((d : Int) + 1) = ((d + 1 : Nat) : Int) := wrap_add d 1 _ rfl (Nat.le_trans (Nat.add_le_add_right (Nat.le_of_not_lt hd) 1) (by decide))
 have w2 : wrap64 (((d + 1 : Nat) : Int) + (-1)) = (d : Int) := by unfold wrap64; omega
 refine Out.step (fun k => within_step k l _) ?_
 refine Out.congr (G := fun k => within0W k l (st s f d 0 0)) (fun k => by rw [if_neg (show ¬ (st s f (d : Int) 0 0).2.2.2.2.2.2.2.1 > 40 from by show ¬ (d : Int) > 40; omega)]) ?_
 refine Out.step (fun k => within0_step k l _) ?_
 refine Out.congr (fun k => by rw [if_pos (show errOf (st s f (d : Int) 0 0) = 0 from rfl)]) ?_
 have e1 : deepBy (st s f (d : Int) 0 0) 1 = st s f ((d + 1 : Nat) : Int) 0 0 := by
  show (_, _, _, _, _, _, _, wrap64 ((d : Int) + 1), _, _) = _
  rw [w1]; rfl
 rw [e1]
 refine Out.bind (nextW_st hs ht hf) ?_
 have e2 : ∀ (g : Nat) (e p : Int), deepBy (st s g ((d + 1 : Nat) : Int) e p) (-1) = st s g (d : Int) e p := fun g e p => by
  show (_, _, _, _, _, _, _, wrap64 (((d + 1 : Nat) : Int) + (-1)), _, _) = _
  rw [w2]; rfl
 have o := ih.or (d + 1) _ r (nx_fit ht hf) (by omega) h
 cases r with
 | ok v g =>
  refine ⟨o.1, Ev.bind o.2 ?_⟩
  refine Ev.congr (f := fun _ => some (res v (st s g d 0 0))) (fun k => ?_) (Ev.now _)
  show some (v.f0, v.f1, v.f2, v.f3, deepBy (st s g ((d + 1 : Nat) : Int) 0 0) (-1)) = _
  rw [e2]; rfl
 | err e p =>
  obtain ⟨o1, x, g, o2, o3⟩ := o
  refine ⟨o1, x, g, o2, Ev.bind o3 ?_⟩
  refine Ev.congr (f := fun _ => some (res x (st s g d e p))) (fun k => ?_) (Ev.now _)
  show some (x.f0, x.f1, x.f2, x.f3, deepBy (st s g ((d + 1 : Nat) : Int) e p) (-1)) = _
  rw [e2]; rfl
theorem next_any (hs : s.size ≤ 2000) {f : Nat} {d e p : Int} (hf : f ≤ s.size) : ∃ g, g ≤ s.size ∧ Ev (fun k => nextW k l (st s f d e p)) (st s g d e p) :=
 ⟨_, nx_fit rfl hf, nextW_st hs rfl hf⟩
theorem within_deep {f d : Nat} (h : 40 < d) : Ev (fun k => withinW k l (st s f d 0 0)) (res ⟨0, 0, 0, []⟩ (st s f d 3 f)) := by
 refine Ev.step (fun k => within_step k l _) ?_
 refine Ev.congr (f := fun k => within0W k l (st s f d 3 f)) (fun k => by rw [if_pos (show (st s f (d : Int) 0 0).2.2.2.2.2.2.2.1 > 40 from by show (d : Int) > 40; omega), wrong_st]) ?_
 refine Ev.step (fun k => within0_step k l _) ?_
 exact Ev.congr (f := fun _ => some (res ⟨0, 0, 0, []⟩ (st s f d 3 f))) (fun k => by rw [if_neg (show ¬ errOf (st s f (d : Int) 3 f) = 0 by show ¬ (3 : Int) = 0; decide)]; rfl) (Ev.now _)
theorem exOf_res (x : S28) (σ : PS) : exOf (res x σ) = x := by cases x; rfl
theorem paren_err (hs : s.size ≤ 2000) {g d p : Nat} {e : Int} {x : S28} (hg : g ≤ s.size) (he : e ≠ 0) : Out s d (fun k => if isB (res x (st s g d e p)).2.2.2.2 41 = true then (nextW k l (res x (st s g d e p)).2.2.2.2).bind fun τ => some (res (exOf (res x (st s g d e p))) τ) else (nextW k l (wrongS (res x (st s g d e p)).2.2.2.2 1)).bind fun τ => some (res (exOf (res x (st s g d e p))) τ)) (.err e p) := by
 obtain ⟨g2, g1, g3⟩ := next_any (l := l) hs (d := d) (e := e) (p := p) hg
 refine ⟨he, x, g2, g1, ?_⟩
 refine Ev.congr (f := fun k => (nextW k l (st s g d e p)).bind fun τ => some (res x τ)) (fun k => ?_) (Ev.bind g3 (Ev.now _))
 show (if isB (st s g d e p) 41 = true then (nextW k l (st s g d e p)).bind fun τ => some (res x τ) else (nextW k l (wrongS (st s g d e p) 1)).bind fun τ => some (res x τ)) = _
 rw [wrong_no he]
 split <;> rfl
theorem nest_err (hs : s.size ≤ 2000) (hl : l.length ≤ 1000) {g d p : Nat} {e a : Int} {x : S28} (hg : g ≤ s.size) (he : e ≠ 0) : Out s d (fun k => if (res x (st s g d e p)).2.2.2.2.2.2.2.1 = 6 then (symW k l (res x (st s g d e p)).2.2.2.2).bind fun y => (nextW k l y.2).bind fun τ => some (res ⟨4, a, y.1, [exOf (res x (st s g d e p))]⟩ τ) else (nextW k l (wrongS (res x (st s g d e p)).2.2.2.2 1)).bind fun τ => some (res ⟨4, a, 0, [exOf (res x (st s g d e p))]⟩ τ)) (.err e p) := by
 obtain ⟨g2, g1, g3⟩ := next_any (l := l) hs (d := d) (e := e) (p := p) hg
 rw [exOf_res]
 show Out s d (fun k => if (st s g d e p).2.2.2.1 = 6 then (symW k l (st s g d e p)).bind fun y => (nextW k l y.2).bind fun τ => some (res ⟨4, a, y.1, [x]⟩ τ) else (nextW k l (wrongS (st s g d e p) 1)).bind fun τ => some (res ⟨4, a, 0, [x]⟩ τ)) (.err e p)
 rw [wrong_no he]
 obtain ⟨t, m, ht⟩ : ∃ t m, tokAt ((L s).drop g) = (t, m) := ⟨_, _, rfl⟩
 rw [st_K ht]
 by_cases hk : t.K = 6
 ·refine Out.congr (fun k => by rw [if_pos hk]) ?_
  obtain ⟨nm, rfl⟩ : ∃ nm, t = .over nm := by
   cases t with
   | over nm => exact ⟨nm, rfl⟩
   | _ => simp [Tk.K] at hk
  refine Out.bind (symW_st (k9 := 2) hl ht rfl rfl) ?_
  rw [wrong_no he]
  cases findT l nm 2 0 with
  | some j => exact ⟨he, _, g2, g1, Ev.bind g3 (Ev.now _)⟩
  | none => exact ⟨he, _, g2, g1, Ev.bind g3 (Ev.now _)⟩
 ·refine Out.congr (fun k => by rw [if_neg hk]) ?_
  exact ⟨he, _, g2, g1, Ev.bind g3 (Ev.now _)⟩
theorem sim (hs : s.size ≤ 2000) (hl : l.length ≤ 1000) : ∀ n, Sim l s n
 | 0 => by constructor <;> intros <;> simp_all [aAtom, aRep, aCat, aOr, aStars, aCats, aOrs]
 | n + 1 => by
  have ih := sim hs hl n
  have hb := bnd l (L s) n
  have hL : (L s).length = s.size := L_len s
  constructor
  ·intro d f r hf hd h
   refine Out.step (fun k => atom_step k l _) ?_
   obtain ⟨t, m, ht⟩ : ∃ t m, tokAt ((L s).drop f) = (t, m) := ⟨_, _, rfl⟩
   rw [st_is (ch := 48) (c := 48) ht rfl, st_is (ch := 49) (c := 49) ht rfl, st_is (ch := 40) (c := 40) ht rfl, st_K ht]
   rw [aAtom, ht] at h
   have wrongHere : ∀ (e : Int), e ≠ 0 → Out s d (fun k => (nextW k l (wrongS (st s f d 0 0) e)).bind fun τ => some (res ⟨0, 0, 0, []⟩ τ)) (.err e f) := fun e he => by
    rw [wrong_st]
    obtain ⟨g, g1, g2⟩ := next_any (l := l) hs (d := d) (e := e) (p := f) hf
    exact ⟨he, ⟨0, 0, 0, []⟩, g, g1, Ev.bind g2 (Ev.now _)⟩
   cases t with
   | one c =>
    have e0 := one_step (s := L s) (f := f) (c := c) (by rw [ht]; simp [Tk.isOne]) (by rw [hL]; exact hf)
    have e1 := e0.2.2
    by_cases h48 : c = 48
    ·subst h48
     injection h with h; subst h
     refine Out.congr (fun k => by rw [if_pos (show (Tk.one 48).isOne 48 = true from rfl)]) ?_
     exact Out.bind (nextW_st hs e1 hf) ⟨nx_fit e1 hf, Ev.now _⟩
    by_cases h49 : c = 49
    ·subst h49
     injection h with h; subst h
     refine Out.congr (fun k => by rw [if_neg (show ¬ (Tk.one 49).isOne 48 = true by decide), if_pos (show (Tk.one 49).isOne 49 = true from rfl)]) ?_
     exact Out.bind (nextW_st hs e1 hf) ⟨nx_fit e1 hf, Ev.now _⟩
    have n48 : ¬ (Tk.one c).isOne 48 = true := by simpa [Tk.isOne] using h48
    have n49 : ¬ (Tk.one c).isOne 49 = true := by simpa [Tk.isOne] using h49
    simp only [if_neg h48, if_neg h49] at h
    by_cases h40 : c = 40
    ·subst h40
     rw [if_pos rfl] at h
     refine Out.congr (fun k => by rw [if_neg n48, if_neg n49, if_pos (show (Tk.one 40).isOne 40 = true from rfl)]) ?_
     by_cases hd40 : 40 < d
     ·rw [if_pos hd40] at h
      injection h with h; subst h
      exact Out.bind (within_deep hd40) (paren_err hs hf (by decide))
     ·rw [if_neg hd40] at h
      rcases Rs.and_cases h with ⟨x, q, h1, h2⟩ | ⟨e, p, h1, rfl⟩
      ·obtain ⟨o1, o2⟩ := within_out hs ih e1 hf hd40 h1
       refine Out.bind o2 ?_
       show Out s d (fun k => if isB (st s q d 0 0) 41 = true then (nextW k l (st s q d 0 0)).bind fun τ => some (res x τ) else (nextW k l (wrongS (st s q d 0 0) 1)).bind fun τ => some (res x τ)) r
       obtain ⟨t2, m2, ht2⟩ : ∃ t m, tokAt ((L s).drop q) = (t, m) := ⟨_, _, rfl⟩
       rw [st_is (ch := 41) (c := 41) ht2 rfl]
       by_cases hq : (tokAt ((L s).drop q)).1.isOne 41 = true
       ·have e2 := (one_step hq (by rw [hL]; exact o1)).2.2
        rw [if_pos hq] at h2
        injection h2 with h2; subst h2
        rw [ht2] at hq
        refine Out.congr (fun k => by rw [if_pos hq]) ?_
        exact Out.bind (nextW_st hs e2 o1) ⟨nx_fit e2 o1, Ev.now _⟩
       ·rw [if_neg hq] at h2
        injection h2 with h2; subst h2
        rw [ht2] at hq
        refine Out.congr (fun k => by rw [if_neg hq, wrong_st]) ?_
        obtain ⟨g, g1, g2⟩ := next_any (l := l) hs (d := d) (e := 1) (p := q) o1
        exact ⟨by decide, x, g, g1, Ev.bind g2 (Ev.now _)⟩
      ·obtain ⟨o1, x, g, o2, o3⟩ := within_out hs ih e1 hf hd40 h1
       exact Out.bind o3 (paren_err hs o2 o1)
    ·simp only [if_neg h40] at h
     injection h with h; subst h
     have n40 : ¬ (Tk.one c).isOne 40 = true := by simpa [Tk.isOne] using h40
     exact Out.congr (fun k => by rw [if_neg n48, if_neg n49, if_neg n40, if_neg (show ¬ (Tk.one c).K = 4 by simp [Tk.K]), if_neg (show ¬ (Tk.one c).K = 5 by simp [Tk.K])]) (wrongHere 1 (by decide))
   | sym nm kd =>
    have no : ∀ c, ¬ (Tk.sym nm kd).isOne c = true := fun c => by simp [Tk.isOne]
    refine Out.congr (fun k => by rw [if_neg (no 48), if_neg (no 49), if_neg (no 40), if_pos (show (Tk.sym nm kd).K = 4 from rfl)]) ?_
    refine Out.bind (symW_st (k9 := kd) hl ht rfl rfl) ?_
    simp only at h
    cases hq : findT l nm kd 0 with
    | some i =>
     rw [hq] at h
     injection h with h; subst h
     exact Out.bind (nextW_st hs ht hf) ⟨nx_fit ht hf, Ev.now _⟩
    | none =>
     rw [hq] at h
     injection h with h; subst h
     obtain ⟨g, g1, g2⟩ := next_any (l := l) hs (d := d) (e := 6) (p := f) hf
     exact ⟨by decide, _, g, g1, Ev.bind g2 (Ev.now _)⟩
   | nest nm =>
    have no : ∀ c, ¬ (Tk.nest nm).isOne c = true := fun c => by simp [Tk.isOne]
    refine Out.congr (fun k => by rw [if_neg (no 48), if_neg (no 49), if_neg (no 40), if_neg (show ¬ (Tk.nest nm).K = 4 by simp [Tk.K]), if_pos (show (Tk.nest nm).K = 5 from rfl)]) ?_
    refine Out.bind (symW_st (k9 := 1) hl ht rfl rfl) ?_
    simp only at h
    cases hq : findT l nm 1 0 with
    | none =>
     rw [hq] at h
     injection h with h; subst h
     exact Out.bind (within_err (show (6 : Int) ≠ 0 by decide)) (nest_err hs hl hf (by decide))
    | some a =>
     rw [hq] at h
     simp only at h ⊢
     by_cases hd40 : 40 < d
     ·rw [if_pos hd40] at h
      injection h with h; subst h
      exact Out.bind (within_deep hd40) (nest_err hs hl hf (by decide))
     ·rw [if_neg hd40] at h
      rcases Rs.and_cases h with ⟨x, q, h1, h2⟩ | ⟨e, p, h1, rfl⟩
      ·obtain ⟨o1, o2⟩ := within_out hs ih ht hf hd40 h1
       refine Out.bind o2 ?_
       rw [exOf_res]
       show Out s d (fun k => if (st s q (d : Int) 0 0).2.2.2.1 = 6 then (symW k l (st s q d 0 0)).bind fun y => (nextW k l y.2).bind fun τ => some (res ⟨4, a, y.1, [x]⟩ τ) else (nextW k l (wrongS (st s q d 0 0) 1)).bind fun τ => some (res ⟨4, a, 0, [x]⟩ τ)) r
       obtain ⟨t2, m2, ht2⟩ : ∃ t m, tokAt ((L s).drop q) = (t, m) := ⟨_, _, rfl⟩
       rw [st_K ht2]
       rw [ht2] at h2
       have bad : t2.K ≠ 6 → some (Rs.err 1 q) = some r → Out s d (fun k => if t2.K = 6 then (symW k l (st s q d 0 0)).bind fun y => (nextW k l y.2).bind fun τ => some (res ⟨4, a, y.1, [x]⟩ τ) else (nextW k l (wrongS (st s q d 0 0) 1)).bind fun τ => some (res ⟨4, a, 0, [x]⟩ τ)) r := fun hk hr => by
        injection hr with hr; subst hr
        refine Out.congr (fun k => by rw [if_neg hk, wrong_st]) ?_
        obtain ⟨g, g1, g2⟩ := next_any (l := l) hs (d := d) (e := 1) (p := q) o1
        exact ⟨by decide, _, g, g1, Ev.bind g2 (Ev.now _)⟩
       cases t2 with
       | over nm2 =>
        refine Out.congr (fun k => by rw [if_pos (show (Tk.over nm2).K = 6 from rfl)]) ?_
        refine Out.bind (symW_st (k9 := 2) hl ht2 rfl rfl) ?_
        simp only at h2
        cases hq2 : findT l nm2 2 0 with
        | some b =>
         rw [hq2] at h2
         injection h2 with h2; subst h2
         exact Out.bind (nextW_st hs ht2 o1) ⟨nx_fit ht2 o1, Ev.now _⟩
        | none =>
         rw [hq2] at h2
         injection h2 with h2; subst h2
         obtain ⟨g, g1, g2⟩ := next_any (l := l) hs (d := d) (e := 6) (p := q) o1
         exact ⟨by decide, _, g, g1, Ev.bind g2 (Ev.now _)⟩
       | eof => exact bad (by simp [Tk.K]) h2
       | bad => exact bad (by simp [Tk.K]) h2
       | one c => exact bad (by simp [Tk.K]) h2
       | sym nm2 k2 => exact bad (by simp [Tk.K]) h2
       | nest nm2 => exact bad (by simp [Tk.K]) h2
      ·obtain ⟨o1, x, g, o2, o3⟩ := within_out hs ih ht hf hd40 h1
       exact Out.bind o3 (nest_err hs hl o2 o1)
   | over nm =>
    injection h with h; subst h
    exact Out.congr (fun k => rfl) (wrongHere 1 (by decide))
   | eof =>
    injection h with h; subst h
    exact Out.congr (fun k => rfl) (wrongHere 1 (by decide))
   | bad =>
    injection h with h; subst h
    exact Out.congr (fun k => rfl) (wrongHere 1 (by decide))
  ·intro d f r hf hd h
   rw [aRep] at h
   refine Out.step (fun k => rep_step k l _) ?_
   rcases Rs.and_cases h with ⟨x, q, h1, h2⟩ | ⟨e, p, h1, rfl⟩
   ·obtain ⟨o1, o2⟩ := ih.atom d f _ hf hd h1
    exact Out.bind o2 (ih.stars d q x r o1 h2)
   ·obtain ⟨o1, x, g, o2, o3⟩ := ih.atom d f _ hf hd h1
    exact ⟨o1, x, g, o2, Ev.bind o3 (repL_err _ o1)⟩
  ·intro d f r hf hd h
   rw [aCat] at h
   refine Out.step (fun k => cat_step k l _) ?_
   rcases Rs.and_cases h with ⟨x, q, h1, h2⟩ | ⟨e, p, h1, rfl⟩
   ·obtain ⟨o1, o2⟩ := ih.rep d f _ hf hd h1
    have b := hb.rep _ _ _ _ (by rw [hL]; exact hf) h1
    have := tsize_eq x
    exact Out.bind o2 (by rw [exOf_res]; exact ih.cats d q [x] r o1 hd (by simp) (by simp only [List.length_singleton]; omega) h2)
   ·obtain ⟨o1, x, g, o2, o3⟩ := ih.rep d f _ hf hd h1
    exact ⟨o1, _, g, o2, Ev.bind o3 (catL_err (by simp) o1)⟩
  ·intro d f r hf hd h
   rw [aOr] at h
   refine Out.step (fun k => or_step k l _) ?_
   rcases Rs.and_cases h with ⟨x, q, h1, h2⟩ | ⟨e, p, h1, rfl⟩
   ·obtain ⟨o1, o2⟩ := ih.cat d f _ hf hd h1
    have b := hb.cat _ _ _ _ (by rw [hL]; exact hf) h1
    have := tsize_eq x
    exact Out.bind o2 (by rw [exOf_res]; exact ih.ors d q [x] r o1 hd (by simp) (by simp only [List.length_singleton]; omega) h2)
   ·obtain ⟨o1, x, g, o2, o3⟩ := ih.cat d f _ hf hd h1
    exact ⟨o1, _, g, o2, Ev.bind o3 (orL_err (by simp) o1)⟩
  ·intro d f x r hf h
   rw [aStars] at h
   refine Out.step (fun k => repL_step k l _ x) ?_
   refine Out.congr (fun k => by rw [if_pos (show errOf (st s f (d : Int) 0 0) = 0 from rfl)]) ?_
   obtain ⟨t, m, ht⟩ : ∃ t m, tokAt ((L s).drop f) = (t, m) := ⟨_, _, rfl⟩
   rw [st_is (ch := 42) (c := 42) ht rfl]
   by_cases hq : (tokAt ((L s).drop f)).1.isOne 42 = true
   ·have e1 := (one_step hq (by rw [hL]; exact hf)).2.2
    rw [if_pos hq] at h
    rw [ht] at hq
    refine Out.congr (fun k => by rw [if_pos hq]) ?_
    refine Out.bind (nextW_st hs e1 hf) ?_
    exact ih.stars d _ _ r (nx_fit e1 hf) h
   ·rw [if_neg hq] at h
    rw [ht] at hq
    injection h with h; subst h
    exact ⟨hf, Ev.congr (f := fun _ => some (res x (st s f d 0 0))) (fun k => by rw [if_neg hq]) (Ev.now _)⟩
  ·intro d f acc r hf hd ha hal h
   rw [aCats] at h
   refine Out.step (fun k => catL_step k l _ acc ha) ?_
   refine Out.congr (fun k => by rw [if_pos (show errOf (st s f (d : Int) 0 0) = 0 from rfl)]) ?_
   obtain ⟨t, m, ht⟩ : ∃ t m, tokAt ((L s).drop f) = (t, m) := ⟨_, _, rfl⟩
   rw [st_beg ht]
   rw [ht] at h
   by_cases hq : t.begins = true
   ·rw [if_pos hq] at h
    refine Out.congr (fun k => by rw [if_pos hq]) ?_
    rcases Rs.and_cases h with ⟨x, q, h1, h2⟩ | ⟨e, p, h1, rfl⟩
    ·obtain ⟨o1, o2⟩ := ih.rep d f _ hf hd h1
     have b := hb.rep _ _ _ _ (by rw [hL]; exact hf) h1
     have := tsize_eq x
     refine Out.bind o2 ?_
     refine Out.congr (fun k => by rw [if_pos (show acc.length < 2932031007402 by omega)]) ?_
     rw [exOf_res]
     exact ih.cats d q (acc ++ [x]) r o1 hd (by simp) (by rw [List.length_append, List.length_singleton]; omega) h2
    ·obtain ⟨o1, x, g, o2, o3⟩ := ih.rep d f _ hf hd h1
     refine ⟨o1, severalT 5 (acc ++ [exOf (res x (st s g d e p))]), g, o2, Ev.bind o3 ?_⟩
     refine Ev.congr (fun k => by rw [if_pos (show acc.length < 2932031007402 by omega)]) ?_
     exact catL_err (by simp) o1
   ·rw [if_neg hq] at h
    injection h with h; subst h
    exact ⟨hf, Ev.congr (f := fun _ => some (res (severalT 5 acc) (st s f d 0 0))) (fun k => by rw [if_neg hq]) (Ev.now _)⟩
  ·intro d f acc r hf hd ha hal h
   rw [aOrs] at h
   refine Out.step (fun k => orL_step k l _ acc) ?_
   refine Out.congr (fun k => by rw [if_pos (show errOf (st s f (d : Int) 0 0) = 0 from rfl)]) ?_
   obtain ⟨t, m, ht⟩ : ∃ t m, tokAt ((L s).drop f) = (t, m) := ⟨_, _, rfl⟩
   rw [st_is (ch := 124) (c := 124) ht rfl]
   refine Out.step (fun k => orJ_step k l _ acc _ ha) ?_
   by_cases hq : (tokAt ((L s).drop f)).1.isOne 124 = true
   ·have e0 := one_step hq (by rw [hL]; exact hf)
    have e1 := e0.2.2
    rw [if_pos hq] at h
    rw [ht] at hq
    refine Out.congr (fun k => by rw [if_pos hq]) ?_
    refine Out.bind (nextW_st hs e1 hf) ?_
    have hf2 := nx_fit e1 hf
    rcases Rs.and_cases h with ⟨x, q, h1, h2⟩ | ⟨e, p, h1, rfl⟩
    ·obtain ⟨o1, o2⟩ := ih.cat d _ _ hf2 hd h1
     have b := hb.cat _ _ _ _ (by rw [hL]; exact hf2) h1
     have := tsize_eq x
     refine Out.bind o2 ?_
     refine Out.congr (fun k => by rw [if_pos (show acc.length < 2932031007402 by omega)]) ?_
     rw [exOf_res]
     exact ih.ors d q (acc ++ [x]) r o1 hd (by simp) (by rw [List.length_append, List.length_singleton]; omega) h2
    ·obtain ⟨o1, x, g, o2, o3⟩ := ih.cat d _ _ hf2 hd h1
     refine ⟨o1, severalT 6 (acc ++ [exOf (res x (st s g d e p))]), g, o2, Ev.bind o3 ?_⟩
     refine Ev.congr (fun k => by rw [if_pos (show acc.length < 2932031007402 by omega)]) ?_
     exact orL_err (by simp) o1
   ·rw [if_neg hq] at h
    rw [ht] at hq
    injection h with h; subst h
    exact ⟨hf, Ev.congr (f := fun _ => some (res (severalT 6 acc) (st s f d 0 0))) (fun k => by rw [if_neg hq]) (Ev.now _)⟩
def tell (l : List S56) (S : List UInt8) : Rs → S28 × Int × Int
 | .err e p => (⟨0, 0, 0, []⟩, (p : Int), e)
 | .ok x g => if (tokAt (S.drop g)).1.isEof then (if treeErr l x = 0 then (x, 0, 0) else (⟨0, 0, 0, []⟩, 0, treeErr l x)) else (⟨0, 0, 0, []⟩, (g : Int), 1)
def parseJ (k : Nat) (l : List S56) (σ : PS) (x : S28) : Option (Int × Int × Int × List S28 × Int × Int) := expr_Parse.j0 k l l σ.1 σ.2.1 σ.2.2.1 σ.2.2.2.1 σ.2.2.2.2.1 σ.2.2.2.2.2.1 σ.2.2.2.2.2.2.1 σ.2.2.2.2.2.2.2.1 σ.2.2.2.2.2.2.2.2.1 σ.2.2.2.2.2.2.2.2.2 x.f0 x.f1 x.f2 x.f3
def six (r : S28 × Int × Int) : Int × Int × Int × List S28 × Int × Int := (r.1.f0, r.1.f1, r.1.f2, r.1.f3, r.2.1, r.2.2)
theorem parseJ_err {σ : PS} (x : S28) (h : errOf σ ≠ 0) : Ev (fun k => parseJ k l σ x) (six (⟨0, 0, 0, []⟩, σ.2.2.2.2.2.2.2.2.2, errOf σ)) := by
 refine Ev.step (fun k => rfl) ?_
 refine Ev.congr (f := fun _ => some (six (⟨0, 0, 0, []⟩, σ.2.2.2.2.2.2.2.2.2, errOf σ))) (fun k => ?_) (Ev.now _)
 unfold parseJ
 rw [expr_Parse.j0, if_neg (show ¬ σ.2.2.2.2.2.2.2.2.1 = 0 from h)]
 rfl
theorem parseJ_ok {σ : PS} {x : S28} (h : errOf σ = 0) (hx : tsize x ≤ 1000000000) : Ev (fun k => parseJ k l σ x) (six (if treeErr l x = 0 then (x, 0, 0) else (⟨0, 0, 0, []⟩, 0, treeErr l x))) := by
 refine Ev.step (fun k => rfl) ?_
 refine Ev.congr (f := fun k => (checkF k l x).bind fun t => if t = 0 then some (x.f0, x.f1, x.f2, x.f3, 0, 0) else some (0, 0, 0, [], 0, t)) (fun k => ?_) ?_
 ·unfold parseJ
  rw [expr_Parse.j0, if_pos (show σ.2.2.2.2.2.2.2.2.1 = 0 from h)]
  cases x
  rfl
 ·refine Ev.bind (check_ev l x hx) ?_
  by_cases hq : treeErr l x = 0
  ·rw [if_pos hq, hq]; exact Ev.now _
  ·rw [if_neg hq, if_neg hq]
   exact Ev.now _
theorem parse_sim (hs : s.size ≤ 2000) (hl : l.length ≤ 1000) {n : Nat} {r : Rs} (h : aOr l (L s) n 0 (nx (L s) 0) = some r) : Ev (fun k => expr_Parse.f k l s) (six (tell l (L s) r)) := by
 have hL : (L s).length = s.size := L_len s
 have hf : nx (L s) 0 ≤ s.size := by have := nx_le (L s) 0 (by omega); omega
 have o := (sim hs hl n).or 0 _ r hf (by omega) h
 unfold expr_Parse.f
 refine Ev.congr (fun k => by rw [if_neg (show ¬ (s.size : Int) > 2000 by omega)]) ?_
 refine Ev.bind (next_ev l s hs 0 (by omega) 0 0 (⟨#[]⟩ : ByteArray) 0 0 0 0 0) ?_
 cases r with
 | err e p =>
  obtain ⟨o1, x, g, o2, o3⟩ := o
  refine Ev.bind (g := fun k => orW k l (st s (nx (L s) 0) 0 0 0)) o3 ?_
  show Ev (fun k => if (st s g ((0 : Nat) : Int) e p).2.2.2.1 = 1 then parseJ k l (st s g ((0 : Nat) : Int) e p) x else _) (six (⟨0, 0, 0, []⟩, (p : Int), e))
  have hj := parseJ_err (l := l) (σ := st s g ((0 : Nat) : Int) e p) x o1
  by_cases hk : (st s g ((0 : Nat) : Int) e p).2.2.2.1 = 1
  ·exact Ev.congr (fun k => by rw [if_pos hk]) hj
  ·refine Ev.congr (f := fun k => parseJ k l (st s g ((0 : Nat) : Int) e p) x) (fun k => ?_) hj
   rw [if_neg hk, wrong_eq, Option.bind_some]
   show parseJ k l (wrongS (st s g ((0 : Nat) : Int) e p) 1) x = _
   rw [wrong_no o1]
 | ok x g =>
  have hb := (bnd l (L s) n).or _ _ _ _ (by omega) h
  refine Ev.bind (g := fun k => orW k l (st s (nx (L s) 0) 0 0 0)) o.2 ?_
  show Ev (fun k => if (st s g ((0 : Nat) : Int) 0 0).2.2.2.1 = 1 then parseJ k l (st s g ((0 : Nat) : Int) 0 0) x else _) (six (tell l (L s) (.ok x g)))
  obtain ⟨t, m, ht⟩ : ∃ t m, tokAt ((L s).drop g) = (t, m) := ⟨_, _, rfl⟩
  have hK := st_K (d := ((0 : Nat) : Int)) (e := 0) (p := 0) ht
  have et : tell l (L s) (.ok x g) = if (tokAt ((L s).drop g)).1.isEof then (if treeErr l x = 0 then (x, 0, 0) else (⟨0, 0, 0, []⟩, 0, treeErr l x)) else (⟨0, 0, 0, []⟩, (g : Int), 1) := rfl
  rw [et, ht]
  by_cases hk : t.K = 1
  ·have he : t.isEof = true := by
    cases t with
    | eof => rfl
    | _ => simp [Tk.K] at hk
   rw [if_pos he]
   exact Ev.congr (fun k => by rw [if_pos (hK.trans hk)]) (parseJ_ok rfl (by omega))
  ·have he : ¬ t.isEof = true := by
    cases t with
    | eof => exact absurd rfl hk
    | _ => simp [Tk.isEof]
   rw [if_neg he]
   have hj := parseJ_err (l := l) (σ := st s g ((0 : Nat) : Int) 1 g) x (by show (1 : Int) ≠ 0; decide)
   refine Ev.congr (f := fun k => parseJ k l (st s g ((0 : Nat) : Int) 1 g) x) (fun k => ?_) hj
   rw [if_neg (fun q => hk (hK.symm.trans q)), wrong_eq, Option.bind_some]
   rfl
theorem parse_long (h : 2000 < s.size) : ∀ k, expr_Parse.f k l s = some (six (⟨0, 0, 0, []⟩, 0, 2)) := fun k => by
 unfold expr_Parse.f
 rw [if_pos (by omega)]
 rfl
end
end Go.Proofs.YtodbnnfiadcbaaaL
namespace Go.Proofs.YtodbnnfiadcbaaaL
open Go.RowKit Go.Proofs.Ytodbnnfiadcbaaa.P Go.Proofs.YtodbnnfiadcbaaaW.PrintWords Go.Proofs.YtodbnnfiadcbaaaW.PrintLast Go.Proofs.YtodbnnfiadcbaaaW.PrintMore
set_option linter.unusedSimpArgs false
set_option linter.unusedVariables false
set_option linter.unusedSectionVars false
theorem tformedL_all : ∀ {xs : List S28}, (∀ z ∈ xs, tformed z = true) → tformedL xs = true
 | [], _ => by rw [tformedL]
 | x :: xs, h => by rw [tformedL, h x (by simp), tformedL_all (fun z hz => h z (by simp [hz]))]; rfl
theorem tbadL_all {l : List S56} : ∀ {xs : List S28}, (∀ z ∈ xs, tbad l z = false) → tbadL l xs = false
 | [], _ => by rw [tbadL]
 | x :: xs, h => by rw [tbadL, h x (by simp), tbadL_all (fun z hz => h z (by simp [hz]))]; rfl
theorem ofF_in {l : List S56} {i : Int} (h0 : 0 ≤ i) (h1 : i < (l.length : Int)) : ofF l i = (rd_T56 l i).f1 := by
 unfold ofF
 rw [if_neg (by omega), if_neg (by omega)]
theorem view_fit {l : List S56} (hk : kindsB l = true) {e : S28} (v : View l e) : Fit l e := by
 have mk : ∀ (k a b : Int) (xs : List S28), shF ⟨k, a, b, xs⟩ = true → ovNm l ⟨k, a, b, xs⟩ false = false → (∀ z ∈ xs, Fit l z) → Fit l ⟨k, a, b, xs⟩ := fun k a b xs h1 h2 h3 =>
  ⟨by rw [tformed, h1, tformedL_all (fun z hz => (h3 z hz).1)]; rfl, by rw [tbad, h2, tbadL_all (fun z hz => (h3 z hz).2)]; rfl⟩
 cases v with
 | none => exact mk _ _ _ _ rfl rfl (by simp)
 | void => exact mk _ _ _ _ rfl rfl (by simp)
 | sym a h0 h1 =>
  refine mk _ _ _ _ rfl ?_ (by simp)
  show (false || ofF l a == 0) = false
  rw [ofF_in h0 h1, Bool.false_or, beq_eq_false_iff_ne]
  rcases kind_of hk h0 h1 with q | q | q <;> rw [q] <;> decide
 | nest a b x a0 a1 a2 b0 b1 b2 hx =>
  refine mk _ _ _ _ rfl ?_ (by simpa using hx)
  show (false || (ofF l a != 1 || ofF l b != 2)) = false
  rw [ofF_in a0 a1, ofF_in b0 b1, a2, b2]
  rfl
 | cat x y xs h => exact mk _ _ _ _ (by simp [shF]) rfl h
 | or x y xs h => exact mk _ _ _ _ (by simp [shF]) rfl h
 | star x hx => exact mk _ _ _ _ rfl rfl (by simpa using hx)
section
variable (l : List S56) (ns : List Int) (hl : 0 < l.length) (hl2 : l.length ≤ 1000) (hk : kindsB l = true) (hn : ns.length ≤ 4611686018427387904)
include hl hl2 hk hn
theorem mnext_ev (at_ : Nat) (ha : at_ ≤ ns.length) (n : Int) (h0 : 0 < n) (h1 : n ≤ 1000000) : ∃ (v : Int) (a2 : Nat), a2 ≤ ns.length ∧ 0 ≤ v ∧ v < n ∧ canopylaw5_maker_next.f l ns (at_ : Int) n = some (v, (a2 : Int)) := by
 unfold canopylaw5_maker_next.f
 by_cases h : at_ = ns.length
 ·exact ⟨0, at_, by omega, by omega, h0, by rw [if_pos (by omega)]⟩
 ·have w1 : wrap64 ((at_ : Int) + 1) = ((at_ + 1 : Nat) : Int) := by unfold wrap64; omega
  have w2 : wrap64 (((at_ + 1 : Nat) : Int) - 1) = (at_ : Int) := by unfold wrap64; omega
  refine ⟨rd ns (at_ : Int) % n, at_ + 1, by omega, Int.emod_nonneg _ (by omega), Int.emod_lt_of_pos _ h0, ?_⟩
  rw [if_neg (by omega), w1, w2, if_pos (by omega), if_pos (by omega), within_eq _ _ h0 h1, Option.bind_some]
theorem pick_l0 (kind v : Int) (hv : 0 ≤ v) (hv2 : v < (l.length : Int)) (A : Int) : ∀ (d i : Nat), i + d = l.length → ∃ r : Int, (0 ≤ r → r < (l.length : Int) ∧ (rd_T56 l r).f1 = kind) ∧ Ev (fun k => canopylaw5_maker_pick.l0 k kind v (i : Int) l ns A) (r, A) := by
 intro d
 induction d with
 | zero =>
  intro i hi
  refine ⟨-1, fun h => by omega, Ev.step (fun k => rfl) ?_⟩
  exact Ev.congr (f := fun _ => some (-1, A)) (fun k => by rw [canopylaw5_maker_pick.l0, if_neg (by omega)]) (Ev.now _)
 | succ d ih =>
  intro i hi
  have w : wrap64 (v + (i : Int)) = v + i := by unfold wrap64; omega
  have t0 : Int.tmod (v + (i : Int)) (l.length : Int) = (v + i) % (l.length : Int) := Int.tmod_eq_emod_of_nonneg (by omega)
  have m0 := Int.emod_nonneg (v + (i : Int)) (show ((l.length : Nat) : Int) ≠ 0 by omega)
  have m1 := Int.emod_lt_of_pos (v + (i : Int)) (show (0 : Int) < ((l.length : Nat) : Int) by omega)
  have st : ∀ k, canopylaw5_maker_pick.l0 (k + 1) kind v (i : Int) l ns A = if (rd_T56 l ((v + (i : Int)) % (l.length : Int))).f1 = kind then some ((v + (i : Int)) % (l.length : Int), A) else canopylaw5_maker_pick.l0 k kind v (wrap64 ((i : Int) + 1)) l ns A := fun k => by
   rw [canopylaw5_maker_pick.l0, if_pos (by omega), if_neg (by omega), w, t0, if_pos m0, if_pos m1]
  by_cases h : (rd_T56 l ((v + (i : Int)) % (l.length : Int))).f1 = kind
  ·exact ⟨_, fun _ => ⟨m1, h⟩, Ev.step st (Ev.congr (f := fun _ => some ((v + (i : Int)) % (l.length : Int), A)) (fun k => by rw [if_pos h]) (Ev.now _))⟩
  ·obtain ⟨r, hp, hr⟩ := ih (i + 1) (by omega)
   refine ⟨r, hp, Ev.step st (Ev.congr (fun k => by rw [if_neg h, wrap_suc i l.length (by omega) (by omega)]) hr)⟩
theorem pick_ev (at_ : Nat) (ha : at_ ≤ ns.length) (kind : Int) : ∃ (r : Int) (a2 : Nat), (0 ≤ r → r < (l.length : Int) ∧ (rd_T56 l r).f1 = kind) ∧ a2 ≤ ns.length ∧ Ev (fun k => canopylaw5_maker_pick.f k l ns (at_ : Int) kind) (r, (a2 : Int)) := by
 obtain ⟨v, a2, h1, h2, h3, h4⟩ := mnext_ev l ns hl hl2 hk hn at_ ha (l.length : Int) (by omega) (by omega)
 obtain ⟨r, hp, hr⟩ := pick_l0 l ns hl hl2 hk hn kind v h2 h3 (a2 : Int) l.length 0 (by omega)
 refine ⟨r, a2, hp, h1, ?_⟩
 unfold canopylaw5_maker_pick.f
 rw [h4]
 exact hr
def drawn (e : S28) (a : Nat) : Int × Int × Int × List S28 × Int := (e.f0, e.f1, e.f2, e.f3, (a : Int))
def Drew (l : List S56) (F : Nat → Option (Int × Int × Int × List S28 × Int)) (m b : Nat) : Prop := ∃ (e : S28) (a : Nat), a ≤ m ∧ (tsize e ≤ b ∧ Fit l e) ∧ Ev F (drawn e a)
omit hl hl2 hk hn in
theorem Drew.step {F G : Nat → Option (Int × Int × Int × List S28 × Int)} {m b : Nat} (h : ∀ k, F (k + 1) = G k) (d : Drew l G m b) : Drew l F m b := by
 obtain ⟨e, a, h1, h2, h3⟩ := d
 exact ⟨e, a, h1, h2, Ev.step h h3⟩
omit hl hl2 hk hn in
theorem Drew.congr {F G : Nat → Option (Int × Int × Int × List S28 × Int)} {m b : Nat} (h : ∀ k, F k = G k) (d : Drew l G m b) : Drew l F m b := by
 have : F = G := funext h
 rw [this]; exact d
omit hl hl2 hk hn in
theorem Drew.bind {α : Type} {F : Nat → Option α} {C : Nat → α → Option (Int × Int × Int × List S28 × Int)} {m b : Nat} {x : α} (h : Ev F x) (d : Drew l (fun k => C k x) m b) : Drew l (fun k => (F k).bind (C k)) m b := by
 obtain ⟨e, a, h1, h2, h3⟩ := d
 exact ⟨e, a, h1, h2, Ev.bind h h3⟩
omit hl hl2 hk hn in
theorem Drew.now (e : S28) (a m b : Nat) (h1 : a ≤ m) (h2 : tsize e ≤ b ∧ Fit l e) : Drew l (fun _ => some (drawn e a)) m b := ⟨e, a, h1, h2, Ev.now _⟩
omit hl hl2 hk hn in
theorem fit_eta {e : S28} (h : Fit l e) : Fit l ⟨e.f0, e.f1, e.f2, e.f3⟩ := by cases e; exact h
omit hl hl2 hk hn in
theorem leaf_size (k a b : Int) : tsize ⟨k, a, b, []⟩ = 1 := by rw [tsize, tsizeL]
omit hl hl2 hk hn in
theorem one_size (k a b : Int) (x : S28) : tsize ⟨k, a, b, [⟨x.f0, x.f1, x.f2, x.f3⟩]⟩ = tsize x + 1 := by
 cases x
 rw [tsize, tsizeL, tsizeL, Nat.add_zero]
theorem leaf1 (at_ : Nat) (ha : at_ ≤ ns.length) (x1 : Int) (nest : Bool) (x7 x18 : Int) (b : Nat) (hb : 1 ≤ b) : Drew l (fun k => canopylaw5_maker_make.j1 k x1 nest x7 x18 true l ns (at_ : Int)) ns.length b := by
 obtain ⟨v, a2, h1, h2, h3, h4⟩ := mnext_ev l ns hl hl2 hk hn at_ ha (l.length : Int) (by omega) (by omega)
 refine Drew.step l (fun k => rfl) ?_
 refine Drew.congr l (fun k => by rw [canopylaw5_maker_make.j1, if_pos rfl, h4, Option.bind_some]) ?_
 cases nest with
 | true =>
  obtain ⟨r, a3, hp, h5, h6⟩ := pick_ev l ns hl hl2 hk hn a2 h1 3
  refine Drew.congr l (fun k => by rw [if_pos rfl]) (Drew.bind l h6 ?_)
  by_cases hr : r ≥ 0
  ·exact Drew.congr l (fun k => by rw [if_pos hr]; rfl) (Drew.now l ⟨3, r, 0, []⟩ a3 _ _ h5 ⟨by rw [leaf_size]; exact hb, view_fit hk (.sym r hr (hp hr).1)⟩)
  ·exact Drew.congr l (fun k => by rw [if_neg hr]; rfl) (Drew.now l ⟨1, 0, 0, []⟩ a3 _ _ h5 ⟨by rw [leaf_size]; exact hb, view_fit hk .none⟩)
 | false =>
  exact Drew.congr l (fun k => by rw [if_neg (by decide), if_pos h2]; rfl) (Drew.now l ⟨3, v, 0, []⟩ a2 _ _ h1 ⟨by rw [leaf_size]; exact hb, view_fit hk (.sym v h2 h3)⟩)
theorem rest0 (at_ : Nat) (ha : at_ ≤ ns.length) (x1 : Int) (nest : Bool) (x18 : Int) (h : ¬ (5 ≤ x18 ∧ x18 ≤ 13)) (b : Nat) (hb : 1 ≤ b) (x7 : Int) : Drew l (fun k => canopylaw5_maker_make.j1 k x1 nest x7 x18 false l ns (at_ : Int)) ns.length b := by
 refine Drew.step l (fun k => rfl) ?_
 refine Drew.congr l (fun k => by rw [canopylaw5_maker_make.j1, if_neg (by decide), if_neg (show ¬ x18 = 5 by omega), if_neg (show ¬ x18 = 6 by omega)]) ?_
 refine Drew.step l (fun k => rfl) ?_
 have e7 : (x18 == 7) = false := beq_eq_false_iff_ne.mpr (by omega)
 refine Drew.congr l (fun k => by rw [canopylaw5_maker_make.j2, e7, if_neg (by decide), if_neg (show ¬ x18 = 8 by omega), if_neg (show ¬ x18 = 9 by omega), if_neg (show ¬ x18 = 10 by omega)]) ?_
 refine Drew.step l (fun k => rfl) ?_
 have e11 : (x18 == 11) = false := beq_eq_false_iff_ne.mpr (by omega)
 exact Drew.congr l (fun k => by rw [canopylaw5_maker_make.j3, e11, if_neg (by decide), if_neg (show ¬ x18 = 12 by omega), if_neg (show ¬ x18 = 13 by omega)]; rfl) (Drew.now l ⟨1, 0, 0, []⟩ at_ _ _ ha ⟨by rw [leaf_size]; exact hb, view_fit hk .none⟩)
theorem make_ev : ∀ (d : Nat), d ≤ 100 → ∀ (nest : Bool) (at_ : Nat), at_ ≤ ns.length → Drew l (fun k => canopylaw5_maker_make.f k l ns (at_ : Int) (d : Int) nest) ns.length (4 ^ d) := by
 intro d
 induction d with
 | zero =>
  intro hd nest at_ ha
  obtain ⟨v, a2, h1, h2, h3, h4⟩ := mnext_ev l ns hl hl2 hk hn at_ ha 14 (by omega) (by omega)
  refine Drew.step l (fun k => rfl) ?_
  have t5 : Int.tmod v 5 = v % 5 := Int.tmod_eq_emod_of_nonneg h2
  refine Drew.congr l (fun k => by rw [canopylaw5_maker_make.f, h4, Option.bind_some, if_pos (by omega), t5]) ?_
  have m0 := Int.emod_nonneg v (show (5 : Int) ≠ 0 by omega)
  have m1 := Int.emod_lt_of_pos v (show (0 : Int) < 5 by omega)
  generalize v % 5 = q at m0 m1
  refine Drew.step l (fun k => rfl) ?_
  by_cases q0 : q = 0
  ·exact Drew.congr l (fun k => by rw [canopylaw5_maker_make.j0, if_pos q0]; rfl) (Drew.now l ⟨2, 0, 0, []⟩ a2 _ _ h1 ⟨by rw [leaf_size]; exact Nat.le_refl _, view_fit hk .void⟩)
  by_cases q1 : q = 1
  ·have e : (q == 1) = true := beq_iff_eq.mpr q1
   exact Drew.congr l (fun k => by rw [canopylaw5_maker_make.j0, if_neg q0, if_pos q1, e]) (leaf1 l ns hl hl2 hk hn a2 h1 _ nest _ _ _ (Nat.le_refl _))
  by_cases q2 : q = 2
  ·have e : (q == 2) = true := beq_iff_eq.mpr q2
   exact Drew.congr l (fun k => by rw [canopylaw5_maker_make.j0, if_neg q0, if_neg q1, if_pos q2, e]) (leaf1 l ns hl hl2 hk hn a2 h1 _ nest _ _ _ (Nat.le_refl _))
  by_cases q3 : q = 3
  ·have e : (q == 3) = true := beq_iff_eq.mpr q3
   exact Drew.congr l (fun k => by rw [canopylaw5_maker_make.j0, if_neg q0, if_neg q1, if_neg q2, e]) (leaf1 l ns hl hl2 hk hn a2 h1 _ nest _ _ _ (Nat.le_refl _))
  ·have e : (q == 3) = false := beq_eq_false_iff_ne.mpr q3
   exact Drew.congr l (fun k => by rw [canopylaw5_maker_make.j0, if_neg q0, if_neg q1, if_neg q2, e]) (rest0 l ns hl hl2 hk hn a2 h1 _ nest _ (by omega) _ (Nat.le_refl _) _)
 | succ d ih =>
  intro hd nest at_ ha
  have ih := ih (by omega)
  have p1 : 1 ≤ 4 ^ d := Nat.one_le_pow _ _ (by decide)
  have p2 : 4 ^ (d + 1) = 4 * 4 ^ d := by rw [Nat.pow_succ, Nat.mul_comm]
  have wd : wrap64 (((d + 1 : Nat) : Int) - 1) = (d : Int) := by unfold wrap64; omega
  obtain ⟨v, a2, h1, h2, h3, h4⟩ := mnext_ev l ns hl hl2 hk hn at_ ha 14 (by omega) (by omega)
  refine Drew.step l (fun k => rfl) ?_
  refine Drew.congr l (fun k => by rw [canopylaw5_maker_make.f, h4, Option.bind_some, if_neg (by omega)]) ?_
  generalize v = q at h2 h3
  refine Drew.step l (fun k => rfl) ?_
  by_cases q0 : q = 0
  ·exact Drew.congr l (fun k => by rw [canopylaw5_maker_make.j0, if_pos q0]; rfl) (Drew.now l ⟨2, 0, 0, []⟩ a2 _ _ h1 ⟨by rw [leaf_size]; omega, view_fit hk .void⟩)
  by_cases q1 : q = 1
  ·have e : (q == 1) = true := beq_iff_eq.mpr q1
   exact Drew.congr l (fun k => by rw [canopylaw5_maker_make.j0, if_neg q0, if_pos q1, e]) (leaf1 l ns hl hl2 hk hn a2 h1 _ nest _ _ _ (by omega))
  by_cases q2 : q = 2
  ·have e : (q == 2) = true := beq_iff_eq.mpr q2
   exact Drew.congr l (fun k => by rw [canopylaw5_maker_make.j0, if_neg q0, if_neg q1, if_pos q2, e]) (leaf1 l ns hl hl2 hk hn a2 h1 _ nest _ _ _ (by omega))
  by_cases q3 : q = 3
  ·have e : (q == 3) = true := beq_iff_eq.mpr q3
   exact Drew.congr l (fun k => by rw [canopylaw5_maker_make.j0, if_neg q0, if_neg q1, if_neg q2, e]) (leaf1 l ns hl hl2 hk hn a2 h1 _ nest _ _ _ (by omega))
  have e3 : (q == 3) = false := beq_eq_false_iff_ne.mpr q3
  refine Drew.congr l (fun k => by rw [canopylaw5_maker_make.j0, if_neg q0, if_neg q1, if_neg q2, e3]) ?_
  by_cases q4 : q = 4
  ·exact rest0 l ns hl hl2 hk hn a2 h1 _ nest _ (by omega) _ (by omega) _
  have nest2 : Drew l (fun k => canopylaw5_maker_make.j2 k ((d + 1 : Nat) : Int) nest q q true l ns (a2 : Int)) ns.length (4 ^ (d + 1)) := by
   obtain ⟨r, a3, hp, h5, h6⟩ := pick_ev l ns hl hl2 hk hn a2 h1 1
   obtain ⟨r2, a4, hp2, h7, h8⟩ := pick_ev l ns hl hl2 hk hn a3 h5 2
   refine Drew.step l (fun k => rfl) ?_
   refine Drew.congr l (fun k => by rw [canopylaw5_maker_make.j2, if_pos rfl]) ?_
   refine Drew.bind l h6 (Drew.bind l h8 ?_)
   by_cases c1 : r ≥ 0
   ·by_cases c2 : r2 ≥ 0
    ·obtain ⟨e, a5, h9, h10, h11⟩ := ih true a4 h7
     refine Drew.congr l (fun k => by rw [if_pos c1, if_pos c2, wd]) (Drew.bind l h11 ?_)
     exact Drew.now l ⟨4, r, r2, [⟨e.f0, e.f1, e.f2, e.f3⟩]⟩ a5 _ _ h9 ⟨by rw [one_size]; have := h10.1; omega, view_fit hk (.nest r r2 _ c1 (hp c1).1 (hp c1).2 c2 (hp2 c2).1 (hp2 c2).2 (fit_eta l h10.2))⟩
    ·exact Drew.congr l (fun k => by rw [if_pos c1, if_neg c2]; rfl) (Drew.now l ⟨1, 0, 0, []⟩ a4 _ _ h7 ⟨by rw [leaf_size]; omega, view_fit hk .none⟩)
   ·exact Drew.congr l (fun k => by rw [if_neg c1]; rfl) (Drew.now l ⟨1, 0, 0, []⟩ a4 _ _ h7 ⟨by rw [leaf_size]; omega, view_fit hk .none⟩)
  have kind56 : ∀ (x y : S28) (xs : List S28), (∀ z ∈ x :: y :: xs, Fit l z) → Fit l ⟨wrap64 (5 + Int.tmod q 2), 0, 0, x :: y :: xs⟩ := fun x y xs hxs => by
   have t2 : Int.tmod q 2 = q % 2 := Int.tmod_eq_emod_of_nonneg h2
   have m0 := Int.emod_nonneg q (show (2 : Int) ≠ 0 by omega)
   have m1 := Int.emod_lt_of_pos q (show (0 : Int) < 2 by omega)
   rw [t2]
   rcases (show q % 2 = 0 ∨ q % 2 = 1 by omega) with z | z <;> rw [z]
   ·rw [show wrap64 (5 + 0) = 5 by unfold wrap64; omega]; exact view_fit hk (.cat x y xs hxs)
   ·rw [show wrap64 (5 + 1) = 6 by unfold wrap64; omega]; exact view_fit hk (.or x y xs hxs)
  have rows3 : Drew l (fun k => canopylaw5_maker_make.j3 k ((d + 1 : Nat) : Int) nest q q true l ns (a2 : Int)) ns.length (4 ^ (d + 1)) := by
   obtain ⟨e, a3, h5, h6, h7⟩ := ih nest a2 h1
   obtain ⟨e2, a4, h8, h9, h10⟩ := ih nest a3 h5
   obtain ⟨z, a5, h11, h12, h13, h14⟩ := mnext_ev l ns hl hl2 hk hn a4 h8 3 (by omega) (by omega)
   refine Drew.step l (fun k => rfl) ?_
   refine Drew.congr l (fun k => by rw [canopylaw5_maker_make.j3, if_pos rfl, wd]) ?_
   refine Drew.bind l h7 (Drew.bind l h10 ?_)
   refine Drew.congr l (fun k => by rw [Option.bind_some, show canopylaw5_maker_next.f l ns (drawn e2 a4).2.2.2.2 3 = _ from h14, Option.bind_some]) ?_
   have s2 : tsizeL [(⟨e.f0, e.f1, e.f2, e.f3⟩ : S28), ⟨e2.f0, e2.f1, e2.f2, e2.f3⟩] = tsize e + tsize e2 := by
    cases e; cases e2
    rw [tsizeL, tsizeL, tsizeL]; rfl
   by_cases c : z = 0
   ·obtain ⟨e3, a6, h15, h16, h17⟩ := ih nest a5 h11
    refine Drew.congr l (fun k => by rw [if_pos c]) (Drew.bind l h17 ?_)
    refine Drew.congr l (fun k => by rw [if_pos (by simp only [List.length_cons, List.length_nil]; omega)]; rfl) (Drew.now l ⟨wrap64 (5 + Int.tmod q 2), 0, 0, [(⟨e.f0, e.f1, e.f2, e.f3⟩ : S28), ⟨e2.f0, e2.f1, e2.f2, e2.f3⟩] ++ [⟨e3.f0, e3.f1, e3.f2, e3.f3⟩]⟩ a6 _ _ h15 ?_)
    have s3 : tsize (⟨e3.f0, e3.f1, e3.f2, e3.f3⟩ : S28) = tsize e3 := by cases e3; rfl
    refine ⟨?_, ?_⟩
    ·rw [tsize, tsizeL_snoc, s2, s3]
     have := h6.1; have := h9.1; have := h16.1
     omega
    ·refine kind56 _ _ [_] (fun z hz => ?_)
     simp only [List.mem_cons, List.not_mem_nil, or_false] at hz
     rcases hz with rfl | rfl | rfl
     ·exact fit_eta l h6.2
     ·exact fit_eta l h9.2
     ·exact fit_eta l h16.2
   ·exact Drew.congr l (fun k => by rw [if_neg c]; rfl) (Drew.now l ⟨wrap64 (5 + Int.tmod q 2), 0, 0, [(⟨e.f0, e.f1, e.f2, e.f3⟩ : S28), ⟨e2.f0, e2.f1, e2.f2, e2.f3⟩]⟩ a5 _ _ h11 ⟨by rw [tsize, s2]; have := h6.1; have := h9.1; omega, by
     refine kind56 _ _ [] (fun z hz => ?_)
     simp only [List.mem_cons, List.not_mem_nil, or_false] at hz
     rcases hz with rfl | rfl
     ·exact fit_eta l h6.2
     ·exact fit_eta l h9.2⟩)
  have star : Drew l (fun k => (canopylaw5_maker_make.f k l ns (a2 : Int) (wrap64 (((d + 1 : Nat) : Int) - 1)) nest).bind fun bt787 => (some (7, 0, 0, (([(⟨bt787.1, bt787.2.1, bt787.2.2.1, bt787.2.2.2.1⟩ : S28)] : List (S28))), bt787.2.2.2.2) : Option (Int × Int × Int × List S28 × Int))) ns.length (4 ^ (d + 1)) := by
   obtain ⟨e, a3, h5, h6, h7⟩ := ih nest a2 h1
   refine Drew.congr l (fun k => by rw [wd]) (Drew.bind l h7 ?_)
   exact Drew.now l ⟨7, 0, 0, [⟨e.f0, e.f1, e.f2, e.f3⟩]⟩ a3 _ _ h5 ⟨by rw [one_size]; have := h6.1; omega, view_fit hk (.star _ (fit_eta l h6.2))⟩
  refine Drew.step l (fun k => rfl) ?_
  by_cases q5 : q = 5
  ·have e : (q == 5) = true := beq_iff_eq.mpr q5
   exact Drew.congr l (fun k => by rw [canopylaw5_maker_make.j1, if_neg (by decide), if_pos q5, e]) nest2
  by_cases q6 : q = 6
  ·have e : (q == 6) = true := beq_iff_eq.mpr q6
   exact Drew.congr l (fun k => by rw [canopylaw5_maker_make.j1, if_neg (by decide), if_neg q5, if_pos q6, e]) nest2
  by_cases q7 : q = 7
  ·have e : (q == 7) = true := beq_iff_eq.mpr q7
   exact Drew.congr l (fun k => by rw [canopylaw5_maker_make.j1, if_neg (by decide), if_neg q5, if_neg q6, e]) nest2
  have e7 : (q == 7) = false := beq_eq_false_iff_ne.mpr q7
  refine Drew.congr l (fun k => by rw [canopylaw5_maker_make.j1, if_neg (by decide), if_neg q5, if_neg q6, e7]) ?_
  refine Drew.step l (fun k => rfl) ?_
  by_cases q8 : q = 8
  ·have e : (q == 8) = true := beq_iff_eq.mpr q8
   exact Drew.congr l (fun k => by rw [canopylaw5_maker_make.j2, if_neg (by decide), if_pos q8, e]) rows3
  by_cases q9 : q = 9
  ·have e : (q == 9) = true := beq_iff_eq.mpr q9
   exact Drew.congr l (fun k => by rw [canopylaw5_maker_make.j2, if_neg (by decide), if_neg q8, if_pos q9, e]) rows3
  by_cases q10 : q = 10
  ·have e : (q == 10) = true := beq_iff_eq.mpr q10
   exact Drew.congr l (fun k => by rw [canopylaw5_maker_make.j2, if_neg (by decide), if_neg q8, if_neg q9, if_pos q10, e]) rows3
  by_cases q11 : q = 11
  ·have e : (q == 11) = true := beq_iff_eq.mpr q11
   exact Drew.congr l (fun k => by rw [canopylaw5_maker_make.j2, if_neg (by decide), if_neg q8, if_neg q9, if_neg q10, e]) rows3
  have e11 : (q == 11) = false := beq_eq_false_iff_ne.mpr q11
  refine Drew.congr l (fun k => by rw [canopylaw5_maker_make.j2, if_neg (by decide), if_neg q8, if_neg q9, if_neg q10, e11]) ?_
  refine Drew.step l (fun k => rfl) ?_
  by_cases q12 : q = 12
  ·exact Drew.congr l (fun k => by rw [canopylaw5_maker_make.j3, if_neg (by decide), if_pos q12]) star
  ·exact Drew.congr l (fun k => by rw [canopylaw5_maker_make.j3, if_neg (by decide), if_neg q12, if_pos (by omega)]) star
theorem Make_ev (d : Nat) (hd : d ≤ 10) : ∃ e : S28, (tsize e ≤ 4 ^ d ∧ Fit l e) ∧ Ev (fun k => canopylaw5_Make.f k l ns (d : Int)) (e.f0, e.f1, e.f2, e.f3) := by
 obtain ⟨e, a, h1, h2, h3⟩ := make_ev l ns hl hl2 hk hn d (by omega) false 0 (by omega)
 refine ⟨e, h2, ?_⟩
 unfold canopylaw5_Make.f
 exact Ev.bind h3 (Ev.now _)
end
theorem B_app (a b : List UInt8) : B a ++ B b = B (a ++ b) := L_inj (by rw [L_append, L_B, L_B, L_B])
theorem fit_of {α : Type} {n : Nat} (h : n ≤ 1000000) (a b : α) : (if n ≤ 9223372036854775807 then a else b) = a := if_pos (Nat.le_trans h (by decide))
theorem lit1 (a : UInt8) : (⟨#[a]⟩ : ByteArray) = B [a] := rfl
theorem lit2 (a b : UInt8) : (⟨#[a, b]⟩ : ByteArray) = B [a, b] := rfl
theorem lit3 (a b c : UInt8) : (⟨#[a, b, c]⟩ : ByteArray) = B [a, b, c] := rfl
theorem name_B (l : List S56) (i : Int) : (rd_T56 l i).f0 = B (nameT l i) := (B_L _).symm
section
variable {l : List S56} (hg : goodB l = true)
include hg
theorem name_ev {a : Int} (h0 : 0 ≤ a) (h1 : a < (l.length : Int)) : expr_name.f l a = some (B (nameT l a)) := by
 unfold expr_name.f
 rw [if_neg (by omega), if_neg (by omega), if_pos h0, if_pos h1, name_B]
theorem symText_ev {a : Int} (h0 : 0 ≤ a) (h1 : a < (l.length : Int)) : Ev (fun k => expr_text.f k l a) (B (symT l a)) := by
 have hn := nameT_len (good_names hg) a
 unfold expr_text.f
 refine Ev.congr (fun k => by rw [if_neg (by omega), decide_eq_false (by omega)]) ?_
 refine Ev.step (fun k => rfl) ?_
 refine Ev.congr (f := fun _ => some (B (symT l a))) (fun k => ?_) (Ev.now _)
 rw [expr_text.j0, if_neg (by decide), if_pos h0, if_pos h1, name_B]
 unfold symT
 rw [lit1, lit1, lit2]
 simp only [B_app, B_size]
 by_cases k1 : (rd_T56 l a).f1 = 1
 ·rw [if_pos k1, if_pos k1, fit_of (by omega), fit_of (by simp only [List.length_append, List.length_cons, List.length_nil]; omega)]
 ·rw [if_neg k1, if_neg k1]
  by_cases k2 : (rd_T56 l a).f1 = 2
  ·rw [if_pos k2, if_pos k2, fit_of (by omega), fit_of (by simp only [List.length_append, List.length_cons, List.length_nil]; omega)]
  ·rw [if_neg k2, if_neg k2]
theorem sign_ev {a : Int} : canopyref1_Sign.f (rd_T56 l a).f0 (rd_T56 l a).f1 = some (B (symT l a)) := by
 have hn := nameT_len (good_names hg) a
 unfold canopyref1_Sign.f symT
 rw [name_B, lit1, lit1, lit2]
 simp only [B_app, B_size]
 by_cases k1 : (rd_T56 l a).f1 = 1
 ·rw [if_pos k1, if_pos k1, fit_of (by omega), fit_of (by simp only [List.length_append, List.length_cons, List.length_nil]; omega)]
 ·rw [if_neg k1, if_neg k1]
  by_cases k2 : (rd_T56 l a).f1 = 2
  ·rw [if_pos k2, if_pos k2, fit_of (by omega), fit_of (by simp only [List.length_append, List.length_cons, List.length_nil]; omega)]
  ·rw [if_neg k2, if_neg k2]
omit hg in
def parT (ks : List Int) (k : Int) (t : List UInt8) : List UInt8 := if k ∈ ks then [40, 32] ++ t ++ [32, 41] else t
omit hg in
theorem part_l0 (t : List UInt8) (ht : t.length ≤ 100000) (ks : List Int) (hk : ks.length ≤ 1000) (a b c : Int) (xs : List S28) : ∀ (d i : Nat), i + d = ks.length → Ev (fun k => expr_part.l0 k (B t) ks (ks.length : Int) (i : Int) a b c xs) (B (parT (ks.drop i) a t)) := by
 intro d
 induction d with
 | zero =>
  intro i hi
  rw [List.drop_eq_nil_of_le (by omega)]
  refine Ev.step (fun k => rfl) ?_
  exact Ev.congr (f := fun _ => some (B t)) (fun k => by rw [expr_part.l0, if_neg (by omega)]) (Ev.now _)
 | succ d ih =>
  intro i hi
  have hlt : i < ks.length := by omega
  have hr : rd ks (i : Int) = ks[i] := by simp [rd, hlt]
  rw [List.drop_eq_getElem_cons hlt]
  refine Ev.step (fun k => rfl) ?_
  by_cases h : a = ks[i]
  ·refine Ev.congr (f := fun _ => some (B ([40, 32] ++ t ++ [32, 41]))) (fun k => ?_) ?_
   ·rw [expr_part.l0, if_pos (by omega), if_pos (by omega), if_pos (by omega), hr, if_pos h, lit2, lit2]
    simp only [B_app, B_size]
    rw [fit_of (by omega), fit_of (by simp only [List.length_append, List.length_cons, List.length_nil]; omega)]
   ·unfold parT
    rw [if_pos (show a ∈ ks[i] :: ks.drop (i + 1) by rw [h]; exact List.mem_cons_self)]
    exact Ev.now _
  ·refine Ev.congr (fun k => by rw [expr_part.l0, if_pos (by omega), if_pos (by omega), if_pos (by omega), hr, if_neg h, wrap_suc i ks.length hlt (by omega)]) ?_
   have := ih (i + 1) (by omega)
   have e9 : parT (ks[i] :: ks.drop (i + 1)) a t = parT (ks.drop (i + 1)) a t := by
    unfold parT
    by_cases h2 : a ∈ ks.drop (i + 1)
    ·rw [if_pos h2, if_pos (List.mem_cons_of_mem _ h2)]
    ·rw [if_neg h2, if_neg (fun q => (List.mem_cons.mp q).elim h h2)]
   rw [e9]
   exact this
omit hg in
theorem part_ev (x : S28) (t : List UInt8) (ht : t.length ≤ 100000) (ks : List Int) (hk : ks.length ≤ 1000) (h : Ev (fun k => expr_Text.f k l x.f0 x.f1 x.f2 x.f3) (B t)) : Ev (fun k => expr_part.f k l x.f0 x.f1 x.f2 x.f3 ks) (B (parT ks x.f0 t)) := by
 refine Ev.step (fun k => rfl) ?_
 refine Ev.congr (fun k => by rw [expr_part.f]) ?_
 refine Ev.bind h ?_
 exact part_l0 t ht ks hk _ _ _ _ ks.length 0 (by omega)
omit hg in
def partsT (l : List S56) (ks : List Int) (xs : List S28) : List (List UInt8) := xs.map fun x => parT ks x.f0 (textT l x)
omit hg in
theorem parts_l0 (sep : List UInt8) (ks : List Int) (hk : ks.length ≤ 1000) (xs : List S28) (hx : ∀ x ∈ xs, (textT l x).length ≤ 100000 ∧ Ev (fun k => expr_Text.f k l x.f0 x.f1 x.f2 x.f3) (B (textT l x))) (hn : xs.length ≤ 1000) (hj : (Lib.join (partsT l ks xs) sep).length ≤ 1000000) :
  ∀ (d i : Nat), i + d = xs.length → Ev (fun k => expr_parts.l0 k l (B sep) ks ((partsT l ks (xs.take i)).map B) xs (xs.length : Int) (i : Int)) (B (Lib.join (partsT l ks xs) sep)) := by
 intro d
 induction d with
 | zero =>
  intro i hi
  refine Ev.step (fun k => rfl) ?_
  refine Ev.congr (f := fun _ => some (B (Lib.join (partsT l ks xs) sep))) (fun k => ?_) (Ev.now _)
  rw [expr_parts.l0, if_neg (by omega), List.take_of_length_le (by omega)]
  unfold strings_Join.f
  have e : ((partsT l ks xs).map B).map (fun x => x.data.toList) = partsT l ks xs := by
   rw [List.map_map]
   have : ((fun x : ByteArray => x.data.toList) ∘ B) = id := by funext a; exact L_B a
   rw [this, List.map_id]
  have e2 : (B sep).data.toList = sep := L_B sep
  rw [if_pos (by rw [List.length_map]; unfold partsT; rw [List.length_map]; exact Nat.le_trans hn (by decide)), e, e2, if_pos (Nat.le_trans hj (by decide))]
  rfl
 | succ d ih =>
  intro i hi
  have hlt : i < xs.length := by omega
  obtain ⟨h1, h2⟩ := hx _ (rd_in xs i hlt)
  refine Ev.step (fun k => rfl) ?_
  refine Ev.congr (fun k => by rw [expr_parts.l0, if_pos (by omega), if_pos (by omega), if_pos (by omega)]) ?_
  refine Ev.bind (part_ev (rd_T28 xs (i : Int)) _ h1 ks hk h2) ?_
  have hl : ((partsT l ks (xs.take i)).map B).length = i := by
   rw [List.length_map]; unfold partsT; rw [List.length_map, List.length_take]; omega
  refine Ev.congr (fun k => by rw [if_pos (by rw [hl]; exact Nat.lt_of_le_of_lt (Nat.le_trans (Nat.le_of_lt hlt) hn) (by decide)), wrap_suc i xs.length hlt (by omega)]) ?_
  have := ih (i + 1) (by omega)
  have et : xs.take (i + 1) = xs.take i ++ [rd_T28 xs (i : Int)] := by
   rw [List.take_succ_eq_append_getElem hlt]
   congr 2
   unfold rd_T28
   rw [Int.toNat_natCast, List.getD_eq_getElem?_getD, List.getElem?_eq_getElem hlt]
   rfl
  rw [et] at this
  unfold partsT at this ⊢
  rw [List.map_append, List.map_append] at this
  exact this
omit hg in
theorem parts_ev (a b c : Int) (sep : List UInt8) (ks : List Int) (hk : ks.length ≤ 1000) (xs : List S28) (hx : ∀ x ∈ xs, (textT l x).length ≤ 100000 ∧ Ev (fun k => expr_Text.f k l x.f0 x.f1 x.f2 x.f3) (B (textT l x))) (hn : xs.length ≤ 1000) (hj : (Lib.join (partsT l ks xs) sep).length ≤ 1000000) :
  Ev (fun k => expr_parts.f k l a b c xs (B sep) ks) (B (Lib.join (partsT l ks xs) sep)) := by
 refine Ev.step (fun k => rfl) ?_
 refine Ev.congr (fun k => by rw [expr_parts.f]) ?_
 exact parts_l0 sep ks hk xs hx hn hj xs.length 0 (by omega)
omit hg in
theorem partsT_held (cat : Bool) : ∀ xs : List S28, partsT l (if cat then [5, 6] else [6]) xs = heldsT l cat xs
 | [] => by simp [partsT, heldsT]
 | x :: xs => by
  have := partsT_held cat xs
  unfold partsT at this ⊢
  rw [List.map_cons, this, heldsT]
  congr 1
  unfold parT held
  cases cat
  ·simp
  ·show (if x.f0 ∈ ([5, 6] : List Int) then _ else _) = _
   by_cases h6 : x.f0 = 6
   ·rw [if_pos (by rw [h6]; simp), if_pos (.inl h6)]
   ·by_cases h5 : x.f0 = 5
    ·rw [if_pos (by rw [h5]; simp), if_pos (.inr ⟨rfl, h5⟩)]
    ·rw [if_neg (by simp [h5, h6]), if_neg (by simp [h5, h6])]
omit hg in
theorem partsT_bare (x : S28) : Lib.join (partsT l [] [x]) [32] = textT l x := by
 show Lib.join [parT [] x.f0 (textT l x)] [32] = _
 rw [Lib.join_cons, joinTail_nil, List.append_nil]
 rfl
theorem text_ev : ∀ (n : Nat) (e : S28), tsize e ≤ n → n ≤ 1000 → Fit l e → Ev (fun k => expr_Text.f k l e.f0 e.f1 e.f2 e.f3) (B (textT l e))
 | 0, e, h, _, _ => by rw [tsize_eq] at h; omega
 | n + 1, e, h, hn, hf => by
  have hlen := textT_len (good_names hg) e
  have hz := tsize_eq e
  have kid : ∀ x ∈ e.f3, Fit l x → (textT l x).length ≤ 100000 ∧ Ev (fun k => expr_Text.f k l x.f0 x.f1 x.f2 x.f3) (B (textT l x)) := fun x hx hfx => by
   have h1 := tsize_mem hx
   have h2 := textT_len (good_names hg) x
   exact ⟨by omega, text_ev n x (by omega) (by omega) hfx⟩
  have hnx := len_tsizeL e.f3
  refine Ev.step (fun k => rfl) ?_
  have hv := view hf
  cases hv with
  | none => exact Ev.congr (f := fun _ => some (B [48])) (fun k => by rw [expr_Text.f]; rfl) (by rw [textT_none]; exact Ev.now _)
  | void => exact Ev.congr (f := fun _ => some (B [49])) (fun k => by rw [expr_Text.f]; rfl) (by rw [textT_void]; exact Ev.now _)
  | sym a h0 h1 =>
   refine Ev.congr (fun k => by rw [expr_Text.f, if_neg (show ¬ (3 : Int) = 2 by decide), if_pos (show (3 : Int) = 3 from rfl)]) ?_
   rw [textT_sym]
   exact Ev.bind (symText_ev hg h0 h1) (Ev.now _)
  | nest a b x a0 a1 a2 b0 b1 b2 hx =>
   have hkx := kid x (by simp) hx
   have na := nameT_len (good_names hg) a
   have nb := nameT_len (good_names hg) b
   have hp := parts_ev (l := l) 4 a b [32] [] (by decide) [x] (fun y hy => by rw [List.mem_singleton.mp hy]; exact hkx) (by simp) (by rw [partsT_bare]; exact Nat.le_trans hkx.1 (by decide))
   rw [partsT_bare] at hp
   refine Ev.congr (fun k => by rw [expr_Text.f, if_neg (show ¬ (4 : Int) = 2 by decide), if_neg (show ¬ (4 : Int) = 3 by decide), if_pos (show (4 : Int) = 4 from rfl), name_ev hg a0 a1, Option.bind_some, name_ev hg b0 b1, lit1, lit1, lit2, lit2, lit1]) ?_
   simp only [B_app, B_size, Option.bind_some]
   refine Ev.congr (fun k => by rw [fit_of (by omega), fit_of (by simp only [List.length_append, List.length_cons, List.length_nil]; omega)]) ?_
   refine Ev.bind hp ?_
   simp only [B_app, B_size]
   have hx9 := hkx.1
   refine Ev.congr (f := fun _ => some (B (textT l ⟨4, a, b, [x]⟩))) (fun k => ?_) (Ev.now _)
   rw [fit_of (by simp only [List.length_append, List.length_cons, List.length_nil]; omega), fit_of (by simp only [List.length_append, List.length_cons, List.length_nil]; omega), fit_of (by simp only [List.length_append, List.length_cons, List.length_nil]; omega), fit_of (by simp only [List.length_append, List.length_cons, List.length_nil]; omega), textT_nest]
   simp
  | cat x y xs hx =>
   refine Ev.congr (fun k => by rw [expr_Text.f, if_neg (show ¬ (5 : Int) = 2 by decide), if_neg (show ¬ (5 : Int) = 3 by decide), if_neg (show ¬ (5 : Int) = 4 by decide), if_pos (show (5 : Int) = 5 from rfl), lit1]) ?_
   have e1 : Lib.join (partsT l [5, 6] (x :: y :: xs)) [32] = textT l ⟨5, 0, 0, x :: y :: xs⟩ := by
    rw [textT_cat, show ([5, 6] : List Int) = if true then [5, 6] else [6] from rfl, partsT_held, heldsT_cons, Lib.join_cons]
   have := parts_ev (l := l) 5 0 0 [32] [5, 6] (by decide) (x :: y :: xs) (fun z hz => kid z hz (hx z hz)) (by simp only at hnx hz; omega) (by rw [e1]; omega)
   rw [e1] at this
   exact Ev.bind this (Ev.now _)
  | or x y xs hx =>
   refine Ev.congr (fun k => by rw [expr_Text.f, if_neg (show ¬ (6 : Int) = 2 by decide), if_neg (show ¬ (6 : Int) = 3 by decide), if_neg (show ¬ (6 : Int) = 4 by decide), if_neg (show ¬ (6 : Int) = 5 by decide), if_pos (show (6 : Int) = 6 from rfl), lit3]) ?_
   have e1 : Lib.join (partsT l [6] (x :: y :: xs)) [32, 124, 32] = textT l ⟨6, 0, 0, x :: y :: xs⟩ := by
    rw [textT_or, show ([6] : List Int) = if false then [5, 6] else [6] from rfl, partsT_held, heldsT_cons, Lib.join_cons]
   have := parts_ev (l := l) 6 0 0 [32, 124, 32] [6] (by decide) (x :: y :: xs) (fun z hz => kid z hz (hx z hz)) (by simp only at hnx hz; omega) (by rw [e1]; omega)
   rw [e1] at this
   exact Ev.bind this (Ev.now _)
  | star x hx =>
   refine Ev.congr (fun k => by rw [expr_Text.f, if_neg (show ¬ (7 : Int) = 2 by decide), if_neg (show ¬ (7 : Int) = 3 by decide), if_neg (show ¬ (7 : Int) = 4 by decide), if_neg (show ¬ (7 : Int) = 5 by decide), if_neg (show ¬ (7 : Int) = 6 by decide), if_pos (show (7 : Int) = 7 from rfl), lit1, lit1]) ?_
   have e1 : Lib.join (partsT l [5, 6] [x]) [32] ++ [42] = textT l ⟨7, 0, 0, [x]⟩ := by
    rw [textT_star, show ([5, 6] : List Int) = if true then [5, 6] else [6] from rfl, partsT_held, heldsT_cons, Lib.join_cons, heldsT_nil, joinTail_nil, List.append_nil]
   have hl2 : (Lib.join (partsT l [5, 6] [x]) [32]).length + 1 = (textT l ⟨7, 0, 0, [x]⟩).length := by rw [← e1]; simp
   have := parts_ev (l := l) 7 0 0 [32] [5, 6] (by decide) [x] (fun z hz => by rw [List.mem_singleton.mp hz]; exact kid x (by simp) hx) (by simp) (by omega)
   refine Ev.bind this ?_
   simp only [B_app, B_size]
   refine Ev.congr (f := fun _ => some (B (textT l ⟨7, 0, 0, [x]⟩))) (fun k => ?_) (Ev.now _)
   rw [fit_of (by omega), e1]
end
section
variable {l : List S56} (hg : goodB l = true)
theorem heldT_len (cat : Bool) (x : S28) : (held cat x.f0 (textT l x)).length ≤ (textT l x).length + 4 := held_len _ _ _
theorem held_ev {x : S28} (cat : Bool) (ht : (textT l x).length ≤ 100000) (h : Ev (fun k => canopyref5_Text.f k l x.f0 x.f1 x.f2 x.f3) (B (textT l x))) : Ev (fun k => canopyref5_held.f k l x.f0 x.f1 x.f2 x.f3 cat) (B (held cat x.f0 (textT l x))) := by
 have j : ∀ b : Bool, Ev (fun k => canopyref5_held.j0 k l b x.f0 x.f1 x.f2 x.f3) (B (if b then [40, 32] ++ textT l x ++ [32, 41] else textT l x)) := by
  intro b
  refine Ev.step (fun k => rfl) ?_
  cases b with
  | true =>
   refine Ev.congr (fun k => by rw [canopyref5_held.j0, if_pos rfl, lit2, lit2]) ?_
   refine Ev.bind h ?_
   simp only [B_app, B_size]
   refine Ev.congr (f := fun _ => some (B ([40, 32] ++ textT l x ++ [32, 41]))) (fun k => ?_) (Ev.now _)
   rw [fit_of (by omega), fit_of (by simp only [List.length_append, List.length_cons, List.length_nil]; omega)]
  | false =>
   refine Ev.congr (fun k => by rw [canopyref5_held.j0, if_neg (by decide)]) ?_
   exact Ev.bind h (Ev.now _)
 refine Ev.step (fun k => rfl) ?_
 unfold held
 by_cases h6 : x.f0 = 6
 ·have := j true
  rw [if_pos (.inl h6)]
  exact Ev.congr (fun k => by rw [canopyref5_held.f, if_pos h6]) this
 ·cases cat with
  | true =>
   by_cases h5 : x.f0 = 5
   ·rw [if_pos (.inr ⟨rfl, h5⟩)]
    exact Ev.congr (fun k => by rw [canopyref5_held.f, if_neg h6, if_pos rfl, beq_iff_eq.mpr h5]) (j true)
   ·rw [if_neg (by simp [h5, h6])]
    exact Ev.congr (fun k => by rw [canopyref5_held.f, if_neg h6, if_pos rfl, beq_eq_false_iff_ne.mpr h5]) (j false)
  | false =>
   rw [if_neg (by simp [h6])]
   exact Ev.congr (fun k => by rw [canopyref5_held.f, if_neg h6, if_neg (by decide)]) (j false)
theorem heldsT_drop (cat : Bool) (xs : List S28) (i : Nat) (h : i < xs.length) : heldsT l cat (xs.drop i) = held cat (rd_T28 xs (i : Int)).f0 (textT l (rd_T28 xs (i : Int))) :: heldsT l cat (xs.drop (i + 1)) := by
 rw [rd_drop xs i h, heldsT]
theorem rows_l0 (xs : List S28) (a b c : Int) (hx : ∀ x ∈ xs, (textT l x).length ≤ 100000 ∧ Ev (fun k => canopyref5_Text.f k l x.f0 x.f1 x.f2 x.f3) (B (textT l x))) (hn : xs.length ≤ 1000) : ∀ (d i : Nat) (acc : List UInt8), 0 < i → i + d = xs.length → (acc ++ Lib.joinTail [32] (heldsT l true (xs.drop i))).length ≤ 100000 →
  Ev (fun k => canopyref5_Text.l0 k l (B acc) (i : Int) a b c xs) (B (acc ++ Lib.joinTail [32] (heldsT l true (xs.drop i)))) := by
 intro d
 induction d with
 | zero =>
  intro i acc h0 hi _
  rw [List.drop_eq_nil_of_le (by omega), heldsT_nil, joinTail_nil, List.append_nil]
  refine Ev.step (fun k => rfl) ?_
  exact Ev.congr (f := fun _ => some (B acc)) (fun k => by rw [canopyref5_Text.l0, if_neg (by omega)]) (Ev.now _)
 | succ d ih =>
  intro i acc h0 hi hl
  have hlt : i < xs.length := by omega
  obtain ⟨h1, h2⟩ := hx _ (rd_in xs i hlt)
  rw [heldsT_drop true xs i hlt, joinTail_cons] at hl ⊢
  refine Ev.step (fun k => rfl) ?_
  have hh := heldT_len (l := l) true (rd_T28 xs (i : Int))
  have hl2 := hl
  simp only [List.length_append, List.length_cons, List.length_nil] at hl2
  refine Ev.congr (fun k => by rw [canopyref5_Text.l0, if_pos (by omega), if_pos (by omega), B_size, fit_of (by omega), if_pos (by omega), lit1, B_app]) ?_
  refine Ev.bind (held_ev true h1 h2) ?_
  simp only [B_app, B_size]
  refine Ev.congr (fun k => by rw [fit_of (by simp only [List.length_append, List.length_cons, List.length_nil]; omega), wrap_suc i xs.length hlt (by omega)]) ?_
  have e : ∀ t, acc ++ ([32] ++ held true (rd_T28 xs (i : Int)).f0 (textT l (rd_T28 xs (i : Int))) ++ t) = (acc ++ [32] ++ held true (rd_T28 xs (i : Int)).f0 (textT l (rd_T28 xs (i : Int)))) ++ t := fun t => by simp
  rw [e] at hl ⊢
  exact ih (i + 1) _ (by omega) (by omega) hl
theorem rows_l1 (xs : List S28) (a b c : Int) (hx : ∀ x ∈ xs, (textT l x).length ≤ 100000 ∧ Ev (fun k => canopyref5_Text.f k l x.f0 x.f1 x.f2 x.f3) (B (textT l x))) (hn : xs.length ≤ 1000) : ∀ (d i : Nat) (acc : List UInt8), 0 < i → i + d = xs.length → (acc ++ Lib.joinTail [32, 124, 32] (heldsT l false (xs.drop i))).length ≤ 100000 →
  Ev (fun k => canopyref5_Text.l1 k l (B acc) (i : Int) a b c xs) (B (acc ++ Lib.joinTail [32, 124, 32] (heldsT l false (xs.drop i)))) := by
 intro d
 induction d with
 | zero =>
  intro i acc h0 hi _
  rw [List.drop_eq_nil_of_le (by omega), heldsT_nil, joinTail_nil, List.append_nil]
  refine Ev.step (fun k => rfl) ?_
  exact Ev.congr (f := fun _ => some (B acc)) (fun k => by rw [canopyref5_Text.l1, if_neg (by omega)]) (Ev.now _)
 | succ d ih =>
  intro i acc h0 hi hl
  have hlt : i < xs.length := by omega
  obtain ⟨h1, h2⟩ := hx _ (rd_in xs i hlt)
  rw [heldsT_drop false xs i hlt, joinTail_cons] at hl ⊢
  refine Ev.step (fun k => rfl) ?_
  have hh := heldT_len (l := l) false (rd_T28 xs (i : Int))
  have hl2 := hl
  simp only [List.length_append, List.length_cons, List.length_nil] at hl2
  refine Ev.congr (fun k => by rw [canopyref5_Text.l1, if_pos (by omega), if_pos (by omega), B_size, fit_of (by omega), if_pos (by omega), lit3, B_app]) ?_
  refine Ev.bind (held_ev false h1 h2) ?_
  simp only [B_app, B_size]
  refine Ev.congr (fun k => by rw [fit_of (by simp only [List.length_append, List.length_cons, List.length_nil]; omega), wrap_suc i xs.length hlt (by omega)]) ?_
  have e : ∀ t, acc ++ ([32, 124, 32] ++ held false (rd_T28 xs (i : Int)).f0 (textT l (rd_T28 xs (i : Int))) ++ t) = (acc ++ [32, 124, 32] ++ held false (rd_T28 xs (i : Int)).f0 (textT l (rd_T28 xs (i : Int)))) ++ t := fun t => by simp
  rw [e] at hl ⊢
  exact ih (i + 1) _ (by omega) (by omega) hl
include hg
theorem rtext_ev : ∀ (n : Nat) (e : S28), tsize e ≤ n → n ≤ 1000 → Fit l e → Ev (fun k => canopyref5_Text.f k l e.f0 e.f1 e.f2 e.f3) (B (textT l e))
 | 0, e, h, _, _ => by rw [tsize_eq] at h; omega
 | n + 1, e, h, hn, hf => by
  have hlen := textT_len (good_names hg) e
  have hz := tsize_eq e
  have kid : ∀ x ∈ e.f3, Fit l x → (textT l x).length ≤ 100000 ∧ Ev (fun k => canopyref5_Text.f k l x.f0 x.f1 x.f2 x.f3) (B (textT l x)) := fun x hx hfx => by
   have h1 := tsize_mem hx
   have h2 := textT_len (good_names hg) x
   exact ⟨by omega, rtext_ev n x (by omega) (by omega) hfx⟩
  have hnx := len_tsizeL e.f3
  refine Ev.step (fun k => rfl) ?_
  have hv := view hf
  cases hv with
  | none => exact Ev.congr (f := fun _ => some (B [48])) (fun k => by rw [canopyref5_Text.f]; rfl) (by rw [textT_none]; exact Ev.now _)
  | void => exact Ev.congr (f := fun _ => some (B [49])) (fun k => by rw [canopyref5_Text.f]; rfl) (by rw [textT_void]; exact Ev.now _)
  | sym a h0 h1 =>
   refine Ev.congr (fun k => by rw [canopyref5_Text.f, if_neg (show ¬ (3 : Int) = 1 by decide), if_neg (show ¬ (3 : Int) = 2 by decide), if_pos (show (3 : Int) = 3 from rfl), if_pos (show 0 ≤ a from h0), if_pos (show a < _ from h1), sign_ev hg, Option.bind_some]) ?_
   rw [textT_sym]
   exact Ev.now _
  | nest a b x a0 a1 a2 b0 b1 b2 hx =>
   have hkx := kid x (by simp) hx
   have na := nameT_len (good_names hg) a
   have nb := nameT_len (good_names hg) b
   have hr : rd_T28 [x] 0 = x := rfl
   refine Ev.congr (fun k => by rw [canopyref5_Text.f, if_neg (show ¬ (4 : Int) = 1 by decide), if_neg (show ¬ (4 : Int) = 2 by decide), if_neg (show ¬ (4 : Int) = 3 by decide), if_pos (show (4 : Int) = 4 from rfl), if_pos (show 0 ≤ a from a0), if_pos (show a < _ from a1), if_pos (show (0 : Int) < (([x] : List S28).length : Int) by simp), hr, name_B, name_B, lit1, lit1, lit2, lit2]) ?_
   simp only [B_app, B_size]
   refine Ev.congr (fun k => by rw [fit_of (by omega), fit_of (by simp only [List.length_append, List.length_cons, List.length_nil]; omega)]) ?_
   refine Ev.bind hkx.2 ?_
   simp only [B_app, B_size]
   have hx9 := hkx.1
   refine Ev.congr (f := fun _ => some (B (textT l ⟨4, a, b, [x]⟩))) (fun k => ?_) (Ev.now _)
   rw [fit_of (by simp only [List.length_append, List.length_cons, List.length_nil]; omega), fit_of (by simp only [List.length_append, List.length_cons, List.length_nil]; omega), if_pos (show 0 ≤ b from b0), if_pos (show b < _ from b1), fit_of (by simp only [List.length_append, List.length_cons, List.length_nil]; omega), fit_of (by simp only [List.length_append, List.length_cons, List.length_nil]; omega), textT_nest]
   simp
  | cat x y xs hx =>
   refine Ev.congr (fun k => by rw [canopyref5_Text.f, if_neg (show ¬ (5 : Int) = 1 by decide), if_neg (show ¬ (5 : Int) = 2 by decide), if_neg (show ¬ (5 : Int) = 3 by decide), if_neg (show ¬ (5 : Int) = 4 by decide), if_neg (show ¬ (5 : Int) = 7 by decide), if_pos (show (5 : Int) = 5 from rfl)]) ?_
   have hk : ∀ z ∈ x :: y :: xs, _ := fun z hz => kid z hz (hx z hz)
   have hkx := hk x (by simp)
   have hkl := hkx.1
   have e1 : textT l ⟨5, 0, 0, x :: y :: xs⟩ = held true x.f0 (textT l x) ++ Lib.joinTail [32] (heldsT l true ((x :: y :: xs).drop 1)) := textT_cat _ _ _ _ _
   have hh := heldT_len (l := l) true x
   rw [e1] at hlen ⊢
   refine Ev.step (fun k => rfl) ?_
   refine Ev.congr (fun k => by rw [canopyref5_Text.l0, if_pos (by simp only [List.length_cons]; omega), if_neg (by omega), if_pos (by omega), show rd_T28 (x :: y :: xs) 0 = x from rfl]) ?_
   refine Ev.bind (held_ev true hkl hkx.2) ?_
   rw [show (⟨#[]⟩ : ByteArray) = B [] from rfl]
   simp only [B_app, B_size]
   refine Ev.congr (fun k => by rw [fit_of (by simp only [List.length_nil]; omega)]) ?_
   rw [show wrap64 (0 + 1) = ((1 : Nat) : Int) by unfold wrap64; omega]
   exact rows_l0 (x :: y :: xs) 5 0 0 hk (by simp only at hnx hz; omega) ((x :: y :: xs).length - 1) 1 ([] ++ held true x.f0 (textT l x)) (by omega) (by simp only [List.length_cons]; omega) (by simp only [List.nil_append, List.length_append] at hlen ⊢; omega)
  | or x y xs hx =>
   refine Ev.congr (fun k => by rw [canopyref5_Text.f, if_neg (show ¬ (6 : Int) = 1 by decide), if_neg (show ¬ (6 : Int) = 2 by decide), if_neg (show ¬ (6 : Int) = 3 by decide), if_neg (show ¬ (6 : Int) = 4 by decide), if_neg (show ¬ (6 : Int) = 7 by decide), if_neg (show ¬ (6 : Int) = 5 by decide)]) ?_
   have hk : ∀ z ∈ x :: y :: xs, _ := fun z hz => kid z hz (hx z hz)
   have hkx := hk x (by simp)
   have hkl := hkx.1
   have e1 : textT l ⟨6, 0, 0, x :: y :: xs⟩ = held false x.f0 (textT l x) ++ Lib.joinTail [32, 124, 32] (heldsT l false ((x :: y :: xs).drop 1)) := textT_or _ _ _ _ _
   have hh := heldT_len (l := l) false x
   rw [e1] at hlen ⊢
   refine Ev.step (fun k => rfl) ?_
   refine Ev.congr (fun k => by rw [canopyref5_Text.l1, if_pos (by simp only [List.length_cons]; omega), if_neg (by omega), if_pos (by omega), show rd_T28 (x :: y :: xs) 0 = x from rfl]) ?_
   refine Ev.bind (held_ev false hkl hkx.2) ?_
   rw [show (⟨#[]⟩ : ByteArray) = B [] from rfl]
   simp only [B_app, B_size]
   refine Ev.congr (fun k => by rw [fit_of (by simp only [List.length_nil]; omega)]) ?_
   rw [show wrap64 (0 + 1) = ((1 : Nat) : Int) by unfold wrap64; omega]
   exact rows_l1 (x :: y :: xs) 6 0 0 hk (by simp only at hnx hz; omega) ((x :: y :: xs).length - 1) 1 ([] ++ held false x.f0 (textT l x)) (by omega) (by simp only [List.length_cons]; omega) (by simp only [List.nil_append, List.length_append] at hlen ⊢; omega)
  | star x hx =>
   have hkx := kid x (by simp) hx
   have hkl := hkx.1
   have hh := heldT_len (l := l) true x
   refine Ev.congr (fun k => by rw [canopyref5_Text.f, if_neg (show ¬ (7 : Int) = 1 by decide), if_neg (show ¬ (7 : Int) = 2 by decide), if_neg (show ¬ (7 : Int) = 3 by decide), if_neg (show ¬ (7 : Int) = 4 by decide), if_pos (show (7 : Int) = 7 from rfl), if_pos (show (0 : Int) < (([x] : List S28).length : Int) by simp), show rd_T28 [x] 0 = x from rfl, lit1]) ?_
   refine Ev.bind (held_ev true hkl hkx.2) ?_
   simp only [B_app, B_size]
   refine Ev.congr (f := fun _ => some (B (textT l ⟨7, 0, 0, [x]⟩))) (fun k => ?_) (Ev.now _)
   rw [fit_of (by omega), textT_star]
end
end Go.Proofs.YtodbnnfiadcbaaaL
namespace Go.Proofs.Ytodbnnfiadcbaaa.P
open Go.RowKit Go.Proofs.YtodbnnfiadcbaaaW.PrintWords Go.Proofs.YtodbnnfiadcbaaaW.PrintLast Go.Proofs.YtodbnnfiadcbaaaW.PrintMore Go.Proofs.YtodbnnfiadcbaaaH
attribute [local go_sem] max2_int min2_int max_two min_two max_three min_three max_four min_four 
set_option linter.unusedVariables false
set_option linter.unusedSimpArgs false
def canopylaw5_ExprBack.f (k : Nat) (a0 : Int) (l1 : List Int) : Option (Bool) := (canopylaw5_known.f k).bind fun t871 => (if t871 = true then ((canopylaw1_Syms.f a0 l1).bind fun t872 => ((canopylaw5_Make.f k t872 l1 6).bind fun bt875 => ((canopyref5_Check.f k t872 bt875.1 bt875.2.1 bt875.2.2.1 bt875.2.2.2).bind fun t882 => (if t882 = 0 then ((expr_Text.f k t872 bt875.1 bt875.2.1 bt875.2.2.1 bt875.2.2.2).bind fun t885 => ((expr_Parse.f k t872 t885).bind fun bt886 => ((canopyref5_Text.f k t872 bt875.1 bt875.2.1 bt875.2.2.1 bt875.2.2.2).bind fun t895 => (if t885.toList = t895.toList then ((expr_Check.f k t872 bt875.1 bt875.2.1 bt875.2.2.1 bt875.2.2.2).bind fun t896 => (if t896 = 0 then (if (t885.size : Int) > 2000 then (some true) else (if bt886.2.2.2.2.2 = 0 then (if bt886.2.2.2.2.1 = 0 then ((canopyref5_Same.f k bt886.1 bt886.2.1 bt886.2.2.1 bt886.2.2.2.1 bt875.1 bt875.2.1 bt875.2.2.1 bt875.2.2.2).bind fun t897 => (some t897)) else (some false)) else (some false))) else (some false))) else (some false))))) else ((expr_Check.f k t872 bt875.1 bt875.2.1 bt875.2.2.1 bt875.2.2.2).bind fun t883 => ((canopyref5_Check.f k t872 bt875.1 bt875.2.1 bt875.2.2.1 bt875.2.2.2).bind fun t884 => (some (t883 == t884)))))))) else (some false))
theorem canopylaw5_ExprBack.mono : ∀ a0 a1 k, LeO (canopylaw5_ExprBack.f k a0 a1) (canopylaw5_ExprBack.f (k + 1) a0 a1) := by
 intro a0 a1 k
 unfold canopylaw5_ExprBack.f
 repeat' first
   | (with_reducible exact canopylaw5_Make.mono _ _ _ _)
   | (with_reducible exact canopylaw5_known.mono _)
   | (with_reducible exact canopyref5_Check.mono _ _ _ _ _ _)
   | (with_reducible exact canopyref5_Same.mono _ _ _ _ _ _ _ _ _)
   | (with_reducible exact canopyref5_Text.mono _ _ _ _ _ _)
   | (with_reducible exact expr_Check.mono _ _ _ _ _ _)
   | (with_reducible exact expr_Parse.mono _ _ _)
   | (with_reducible exact expr_Text.mono _ _ _ _ _ _)
   | (with_reducible exact LeO.refl _)
   | (with_reducible refine LeO.ite ?_ ?_)
   | (with_reducible refine LeO.bind ?_ (fun _ => ?_))
def canopylaw5_ExprBack.T6 : Bool × List (List Nat × List Nat) := (true, [([], []), ([], []), ([0, 1], [0, 1]), ([], []), ([], []), ([3, 4, 2], [3, 4]), ([2, 5], [2, 5]), ([6, 5, 0, 1, 2, 3, 4, 5, 6], [6])])
def canopylaw5_ExprBack.B6 : List Nat := [0, 0, 3, 0, 0, 31, 63, 127]
theorem canopylaw5_ExprBack.tab6 : rtab .any (opsOf Try.f3 6) = canopylaw5_ExprBack.T6 := by kernel_rfl
theorem canopylaw5_ExprBack.bits6 : waitsOk canopylaw5_ExprBack.T6.2 canopylaw5_ExprBack.B6 = true := by kernel_rfl
set_option maxHeartbeats 8000000 in
set_option maxRecDepth 100000 in
theorem canopylaw5_ExprBack.calls (k : Nat) (a0 : Int) (A1 : Option Addr) (c1 : Nat) (l1 : List Int) (r : Bool) (w : World) (hr1 : Kd.C (Kd.int .i64) w A1 l1.length l1) (hc1 : l1.length ≤ c1) (h : canopylaw5_ExprBack.f k a0 l1 = some r) (hr : r = true) :
  Calls Try.prog 3 #[.int .i64 a0, .slice A1 l1.length c1] w fun e w' => e = .returned (.bool r) ∧ Below w.heap.size w w' := by
 have HR1 := M0 hr1
 have HC1 := M0 hc1
 clear hr1 hc1
 have HB := M0 (Below.refl w.heap.size w)
 have H : ((canopylaw5_known.f k).bind fun t871 => (if t871 = true then ((canopylaw1_Syms.f a0 l1).bind fun t872 => ((canopylaw5_Make.f k t872 l1 6).bind fun bt875 => ((canopyref5_Check.f k t872 bt875.1 bt875.2.1 bt875.2.2.1 bt875.2.2.2).bind fun t882 => (if t882 = 0 then ((expr_Text.f k t872 bt875.1 bt875.2.1 bt875.2.2.1 bt875.2.2.2).bind fun t885 => ((expr_Parse.f k t872 t885).bind fun bt886 => ((canopyref5_Text.f k t872 bt875.1 bt875.2.1 bt875.2.2.1 bt875.2.2.2).bind fun t895 => (if t885.toList = t895.toList then ((expr_Check.f k t872 bt875.1 bt875.2.1 bt875.2.2.1 bt875.2.2.2).bind fun t896 => (if t896 = 0 then (if (t885.size : Int) > 2000 then (some true) else (if bt886.2.2.2.2.2 = 0 then (if bt886.2.2.2.2.1 = 0 then ((canopyref5_Same.f k bt886.1 bt886.2.1 bt886.2.2.1 bt886.2.2.2.1 bt875.1 bt875.2.1 bt875.2.2.1 bt875.2.2.2).bind fun t897 => (some t897)) else (some false)) else (some false))) else (some false))) else (some false))))) else ((expr_Check.f k t872 bt875.1 bt875.2.1 bt875.2.2.1 bt875.2.2.2).bind fun t883 => ((canopyref5_Check.f k t872 bt875.1 bt875.2.1 bt875.2.2.1 bt875.2.2.2).bind fun t884 => (some (t883 == t884)))))))) else (some false))) = some r := h
 clear h
 replace H := Option.bind_eq_some_iff.mp H
 obtain ⟨t871, A30, H⟩ := H
 try dsimp only at H
 have A3 := M0 A30
 clear A30
 by_cases c4 : t871 = true
 ·subst c4
  rw [if_pos rfl] at H
  replace H := Option.bind_eq_some_iff.mp H
  obtain ⟨t872, A50, H⟩ := H
  try dsimp only at H
  have A5 := M0 A50
  clear A50
  replace H := Option.bind_eq_some_iff.mp H
  obtain ⟨⟨t875, t876, t877, t878⟩, A60, H⟩ := H
  try dsimp only at H
  have A6 := M0 A60
  clear A60
  replace H := Option.bind_eq_some_iff.mp H
  obtain ⟨t882, A70, H⟩ := H
  try dsimp only at H
  have A7 := M0 A70
  clear A70
  by_cases c8 : t882 = 0
  ·rw [if_pos c8] at H
   have c8b1 := nF c8
   clear c8
   replace H := Option.bind_eq_some_iff.mp H
   obtain ⟨t885, A90, H⟩ := H
   try dsimp only at H
   have A9 := M0 A90
   clear A90
   replace H := Option.bind_eq_some_iff.mp H
   obtain ⟨⟨t886, t887, t888, t889, t892, t893⟩, A100, H⟩ := H
   try dsimp only at H
   have A10 := M0 A100
   clear A100
   replace H := Option.bind_eq_some_iff.mp H
   obtain ⟨t895, A110, H⟩ := H
   try dsimp only at H
   have A11 := M0 A110
   clear A110
   by_cases c12 : t885.toList = t895.toList
   ·rw [if_pos c12] at H
    have c12b0 := bT c12
    clear c12
    replace H := Option.bind_eq_some_iff.mp H
    obtain ⟨t896, A130, H⟩ := H
    try dsimp only at H
    have A13 := M0 A130
    clear A130
    by_cases c14 : t896 = 0
    ·rw [if_pos c14] at H
     have c14b0 := bT c14
     have c14b1 := nF c14
     clear c14
     by_cases c15 : (t885.size : Int) > 2000
     ·rw [if_pos c15] at H
      have c15b0 : decide (2000 < (t885.size : Int)) = true := decide_eq_true c15
      clear c15
      obtain rfl := Option.some.inj H
      go_enter Try.func3, Try.ntmps3
      go_wp2_with (first | ((with_reducible refine gate_callee (f := 13) rfl ?_); refine goesL_ (some 11) rfl rfl Try.func13 (by kernel_rfl) rfl #[] rfl (by (simp only [List.map_toArray, List.map_cons, List.map_nil]); done) ?_; (with_reducible refine (canopylaw5_known.calls k  true _ A3.out rfl).mono ?_); rintro e w16 ⟨rfl, hb⟩; refine ⟨_, rfl, ?_⟩; replace HB := M0 (below_step HB.out hb); clear hb) | ((with_reducible refine gate_callee (f := 14) rfl ?_); refine goesL_ (some 15) rfl rfl Try.func14 (by kernel_rfl) rfl #[.int .i64 a0, .slice A1 l1.length c1] rfl (by (simp only [List.map_toArray, List.map_cons, List.map_nil]); rfl) ?_; (with_reducible refine (canopylaw1_Syms.calls a0 _ _ l1 t872 _ ?side1 ?side2 A5.out).mono ?_); (case side1 => repeat (exact (Kd.C_below HR1.out HB.out))); (case side2 => exact HC1.out); rintro e w17 ⟨v873, rfl, ho0, hb⟩; refine ⟨_, rfl, ?_⟩; have HO874 := M0 (Kd.R_lower ho0 (below_size HB.out)); replace HB := M0 (below_step HB.out hb); clear hb ho0; obtain ⟨Ao18, co18, eo18⟩ := Kd.R_slice HO874.out; subst eo18) | ((with_reducible refine gate_callee (f := 15) rfl ?_); refine goesL_ (some 18) rfl rfl Try.func15 (by kernel_rfl) rfl #[.slice Ao18 t872.length co18, .slice A1 l1.length c1, .int .i64 6] rfl (by (simp only [List.map_toArray, List.map_cons, List.map_nil]); rfl) ?_; (with_reducible refine (canopylaw5_Make.calls k _ _ t872 _ _ l1 6 t875 t876 t877 t878 _ ?side1 ?side2 ?side3 ?side4 A6.out).mono ?_); (case side1 => repeat (exact (Kd.R_reads' HO874.out).2.2)); (case side2 => exact (Kd.R_reads' HO874.out).2.1); (case side3 => repeat (exact (Kd.C_below HR1.out HB.out))); (case side4 => exact HC1.out); rintro e w19 ⟨v879, rfl, ho0, hb⟩; refine ⟨_, rfl, ?_⟩; have HO880 := M0 (Kd.N_lower (Kd.N_mono (ok' := fun k_ => some k_ ≠ (.slice Ao18 t872.length co18 : Value).ownBlock) ho0 (fun k_ hk_ => (Kd.fresh' (Kd.R_lt HO874.out) k_ hk_))) (below_size HB.out)); replace HO874 := M0 (Kd.R_below HO874.out hb); replace HB := M0 (below_step HB.out hb); clear hb ho0) | ((with_reducible refine gate_dst (N := 6) rfl ?_); refine box_event ?hg (N := 6) ?hd (cs := #[.int .i64 0, .int .i64 0, .int .i64 0, .slice none 0 0]) (t := 28) ?hr ?_; (case hd => rfl); (case hg => rfl); (case hr => (go_simp; done)); intro gb881 hg w20 hbox hb; replace HO874 := M0 (Kd.R_below HO874.out hb); replace HO880 := M0 (Kd.N_below (Kd.N_elderB HO880.out gb881 (Nat.le_of_eq hg.symm)) hb); have BK881 := M0 hbox; have GE881 := M0 ((by rw [hg]; exact (below_size HB.out) : w.heap.size ≤ gb881)); replace HB := M0 (below_step HB.out hb); clear hb hbox hg; obtain ⟨_, _, _, _, _, _, _, _⟩ := cells4 BK881.out; obtain ⟨Ao22, co22, eo22⟩ := Kd.N_slice HO880.out; subst eo22) | ((with_reducible refine gate_callee (f := 16) rfl ?_); refine goesL_ (some 21) rfl rfl Try.func16 (by kernel_rfl) rfl #[.slice Ao18 t872.length co18, .agg #[.int .i64 t875, .int .i64 t876, .int .i64 t877, .slice Ao22 t878.length co22]] rfl (by (simp only [List.map_toArray, List.map_cons, List.map_nil]); rfl) ?_; (with_reducible refine (canopyref5_Check.calls k _ _ t872 t875 t876 t877 _ _ t878 t882 _ ?side1 ?side2 ?side3 ?side4 A7.out).mono ?_); (case side1 => refine (Kd.R_reads' (e := 56) (base := w.heap.size) (ok := fun k_ => True) (n := t872.length) (c := co18) ?_).2.2; exact (by exact (Kd.R_mono (Kd.R_far (p := ⟨gb881, 3, none⟩) (Kd.R_far (p := ⟨gb881, 2, none⟩) (Kd.R_far (p := ⟨gb881, 1, none⟩) (Kd.R_far (p := ⟨gb881, 0, none⟩) (Kd.R_types HO874.out BK881.out (by decide)) (fun _ hk => hk.2) (.int .i64 t875)) (fun _ hk => hk.2) (.int .i64 t876)) (fun _ hk => hk.2) (.int .i64 t877)) (fun _ hk => hk.2) (.slice Ao22 t878.length co22)) (fun _ h_ => h_.1)))); (case side2 => exact (Kd.R_reads' HO874.out).2.1); (case side3 => refine (Kd.N_reads' (e := 28) (base := w.heap.size) (ok := fun k_ => (some k_ ≠ (.slice Ao18 t872.length co18 : Value).ownBlock ∧ k_ ≠ gb881)) (n := t878.length) (c := co22) ?_).2.2; exact (by exact (Kd.N_mono (Kd.N_far (p := ⟨gb881, 3, none⟩) (Kd.N_far (p := ⟨gb881, 2, none⟩) (Kd.N_far (p := ⟨gb881, 1, none⟩) (Kd.N_far (p := ⟨gb881, 0, none⟩) (Kd.N_mono HO880.out (fun k_ hk => (⟨hk, hk.2⟩ : _ ∧ k_ ≠ gb881))) (fun _ hk => hk.2) (.int .i64 t875)) (fun _ hk => hk.2) (.int .i64 t876)) (fun _ hk => hk.2) (.int .i64 t877)) (fun _ hk => hk.2) (.slice Ao22 t878.length co22)) (fun _ h_ => h_.1)))); (case side4 => exact (Kd.N_reads' HO880.out).2.1); rintro e w23 ⟨rfl, hb⟩; refine ⟨_, rfl, ?_⟩; replace HO874 := M0 (Kd.R_below (by exact (Kd.R_mono (Kd.R_far (p := ⟨gb881, 3, none⟩) (Kd.R_far (p := ⟨gb881, 2, none⟩) (Kd.R_far (p := ⟨gb881, 1, none⟩) (Kd.R_far (p := ⟨gb881, 0, none⟩) (Kd.R_types HO874.out BK881.out (by decide)) (fun _ hk => hk.2) (.int .i64 t875)) (fun _ hk => hk.2) (.int .i64 t876)) (fun _ hk => hk.2) (.int .i64 t877)) (fun _ hk => hk.2) (.slice Ao22 t878.length co22)) (fun _ h_ => h_.1))) hb); replace HO880 := M0 (Kd.N_below (by exact (Kd.N_mono (Kd.N_far (p := ⟨gb881, 3, none⟩) (Kd.N_far (p := ⟨gb881, 2, none⟩) (Kd.N_far (p := ⟨gb881, 1, none⟩) (Kd.N_far (p := ⟨gb881, 0, none⟩) (Kd.N_mono HO880.out (fun k_ hk => (⟨hk, hk.2⟩ : _ ∧ k_ ≠ gb881))) (fun _ hk => hk.2) (.int .i64 t875)) (fun _ hk => hk.2) (.int .i64 t876)) (fun _ hk => hk.2) (.int .i64 t877)) (fun _ hk => hk.2) (.slice Ao22 t878.length co22)) (fun _ h_ => h_.1))) hb); replace BK881 := M0 (blk_below (g := gb881) (o := .cells #[.int .i64 t875, .int .i64 t876, .int .i64 t877, .slice Ao22 t878.length co22] 28 (0, 0)) (blk_put (blk_put (blk_put (blk_put BK881.out 0 _ rfl) 1 _ rfl) 2 _ rfl) 3 _ rfl) hb); replace HB := M0 (below_step (by repeat ((with_reducible first | exact HB.out | refine below_set ?_ GE881.out))) hb); clear hb; obtain ⟨_, _, _, _, _, _, _, _⟩ := cells4 BK881.out) | ((with_reducible refine gate_callee (f := 18) rfl ?_); refine goesL_ (some 32) rfl rfl Try.func18 (by kernel_rfl) rfl #[.slice Ao18 t872.length co18, .agg #[.int .i64 t875, .int .i64 t876, .int .i64 t877, .slice Ao22 t878.length co22]] rfl (by (simp only [List.map_toArray, List.map_cons, List.map_nil]); rfl) ?_; (with_reducible refine (expr_Text.calls k _ _ t872 t875 t876 t877 _ _ t878 t885 _ ?side1 ?side2 ?side3 ?side4 A9.out).mono ?_); (case side1 => repeat (exact (Kd.R_reads' HO874.out).2.2)); (case side2 => exact (Kd.R_reads' HO874.out).2.1); (case side3 => repeat (exact (Kd.N_reads' HO880.out).2.2)); (case side4 => exact (Kd.N_reads' HO880.out).2.1); rintro e w25 ⟨rfl, hb⟩; refine ⟨_, rfl, ?_⟩; replace HO874 := M0 (Kd.R_below HO874.out hb); replace HO880 := M0 (Kd.N_below HO880.out hb); replace BK881 := M0 (blk_below BK881.out hb); replace HB := M0 (below_step HB.out hb); clear hb) | ((with_reducible refine gate_callee (f := 19) rfl ?_); refine goesL_ (some 36) rfl rfl Try.func19 (by kernel_rfl) rfl #[.slice Ao18 t872.length co18, .string t885] rfl (by (simp only [List.map_toArray, List.map_cons, List.map_nil]); rfl) ?_; (with_reducible refine (expr_Parse.calls k _ _ t872 t885 t886 t887 t888 t889 t892 t893 _ ?side1 ?side2 A10.out).mono ?_); (case side1 => repeat (exact (Kd.R_reads' HO874.out).2.2)); (case side2 => exact (Kd.R_reads' HO874.out).2.1); rintro e w26 ⟨v890, rfl, ho0, hb⟩; refine ⟨_, rfl, ?_⟩; have HO891 := M0 (Kd.V_lower (Kd.V_mono (ok' := fun k_ => some k_ ≠ (.slice Ao18 t872.length co18 : Value).ownBlock ∧ some k_ ≠ (.slice Ao22 t878.length co22 : Value).ownBlock ∧ k_ ≠ gb881) ho0 (fun k_ hk_ => ⟨(Kd.fresh' (Kd.R_lt HO874.out) k_ hk_), (Kd.fresh' (Kd.N_lt HO880.out) k_ hk_), (Kd.freshB BK881.out k_ hk_)⟩)) (below_size HB.out)); replace HO874 := M0 (Kd.R_below HO874.out hb); replace HO880 := M0 (Kd.N_below HO880.out hb); replace BK881 := M0 (blk_below BK881.out hb); replace HB := M0 (below_step HB.out hb); clear hb ho0) | ((with_reducible refine gate_dst (N := 8) rfl ?_); refine box_event ?hg (N := 8) ?hd (cs := #[.int .i64 0, .int .i64 0, .int .i64 0, .slice none 0 0]) (t := 28) ?hr ?_; (case hd => rfl); (case hg => rfl); (case hr => (go_simp; done)); intro gb894 hg w27 hbox hb; replace HO874 := M0 (Kd.R_below HO874.out hb); replace HO880 := M0 (Kd.N_below (Kd.N_elderB HO880.out gb894 (Nat.le_of_eq hg.symm)) hb); replace HO891 := M0 (Kd.V_below (Kd.V_elderB HO891.out gb894 (Nat.le_of_eq hg.symm)) hb); have BK894 := M0 hbox; have GE894 := M0 ((by rw [hg]; exact (below_size HB.out) : w.heap.size ≤ gb894)); replace HB := M0 (below_step HB.out hb); have NB881_894 := M0 ((by rw [hg]; exact Nat.ne_of_lt (blk_lt BK881.out) : gb881 ≠ gb894)); replace BK881 := M0 (blk_below BK881.out hb); clear hb hbox hg; have hnc28 := NB881_894.out; obtain ⟨_, _, _, _, _, _, _, _⟩ := cells4 BK894.out; obtain ⟨Ao30, co30, eo30⟩ := Kd.V_slice HO891.out; subst eo30; obtain ⟨_, _, _, _, _, _, _, _⟩ := cells4 BK881.out) | ((with_reducible refine gate_callee (f := 20) rfl ?_); refine goesL_ (some 43) rfl rfl Try.func20 (by kernel_rfl) rfl #[.slice Ao18 t872.length co18, .agg #[.int .i64 t875, .int .i64 t876, .int .i64 t877, .slice Ao22 t878.length co22]] rfl (by (simp only [List.map_toArray, List.map_cons, List.map_nil]); rfl) ?_; (with_reducible refine (canopyref5_Text.calls k _ _ t872 t875 t876 t877 _ _ t878 t895 _ ?side1 ?side2 ?side3 ?side4 A11.out).mono ?_); (case side1 => refine (Kd.R_reads' (e := 56) (base := w.heap.size) (ok := fun k_ => True) (n := t872.length) (c := co18) ?_).2.2; exact (by exact (Kd.R_mono (Kd.R_far (p := ⟨gb894, 3, none⟩) (Kd.R_far (p := ⟨gb894, 2, none⟩) (Kd.R_far (p := ⟨gb894, 1, none⟩) (Kd.R_far (p := ⟨gb894, 0, none⟩) (Kd.R_types HO874.out BK894.out (by decide)) (fun _ hk => hk.2) (.int .i64 t886)) (fun _ hk => hk.2) (.int .i64 t887)) (fun _ hk => hk.2) (.int .i64 t888)) (fun _ hk => hk.2) (.slice Ao30 t889.length co30)) (fun _ h_ => h_.1)))); (case side2 => exact (Kd.R_reads' HO874.out).2.1); (case side3 => refine (Kd.N_reads' (e := 28) (base := w.heap.size) (ok := fun k_ => ((some k_ ≠ (.slice Ao18 t872.length co18 : Value).ownBlock ∧ k_ ≠ gb881) ∧ k_ ≠ gb894)) (n := t878.length) (c := co22) ?_).2.2; exact (by exact (Kd.N_mono (Kd.N_far (p := ⟨gb894, 3, none⟩) (Kd.N_far (p := ⟨gb894, 2, none⟩) (Kd.N_far (p := ⟨gb894, 1, none⟩) (Kd.N_far (p := ⟨gb894, 0, none⟩) (Kd.N_mono HO880.out (fun k_ hk => (⟨hk, hk.2⟩ : _ ∧ k_ ≠ gb894))) (fun _ hk => hk.2) (.int .i64 t886)) (fun _ hk => hk.2) (.int .i64 t887)) (fun _ hk => hk.2) (.int .i64 t888)) (fun _ hk => hk.2) (.slice Ao30 t889.length co30)) (fun _ h_ => h_.1)))); (case side4 => exact (Kd.N_reads' HO880.out).2.1); rintro e w32 ⟨rfl, hb⟩; refine ⟨_, rfl, ?_⟩; replace HO874 := M0 (Kd.R_below (by exact (Kd.R_mono (Kd.R_far (p := ⟨gb894, 3, none⟩) (Kd.R_far (p := ⟨gb894, 2, none⟩) (Kd.R_far (p := ⟨gb894, 1, none⟩) (Kd.R_far (p := ⟨gb894, 0, none⟩) (Kd.R_types HO874.out BK894.out (by decide)) (fun _ hk => hk.2) (.int .i64 t886)) (fun _ hk => hk.2) (.int .i64 t887)) (fun _ hk => hk.2) (.int .i64 t888)) (fun _ hk => hk.2) (.slice Ao30 t889.length co30)) (fun _ h_ => h_.1))) hb); replace HO880 := M0 (Kd.N_below (by exact (Kd.N_mono (Kd.N_far (p := ⟨gb894, 3, none⟩) (Kd.N_far (p := ⟨gb894, 2, none⟩) (Kd.N_far (p := ⟨gb894, 1, none⟩) (Kd.N_far (p := ⟨gb894, 0, none⟩) (Kd.N_mono HO880.out (fun k_ hk => (⟨hk, hk.2⟩ : _ ∧ k_ ≠ gb894))) (fun _ hk => hk.2) (.int .i64 t886)) (fun _ hk => hk.2) (.int .i64 t887)) (fun _ hk => hk.2) (.int .i64 t888)) (fun _ hk => hk.2) (.slice Ao30 t889.length co30)) (fun _ h_ => h_.1))) hb); replace HO891 := M0 (Kd.V_below (by exact (Kd.V_mono (Kd.V_far (p := ⟨gb894, 3, none⟩) (Kd.V_far (p := ⟨gb894, 2, none⟩) (Kd.V_far (p := ⟨gb894, 1, none⟩) (Kd.V_far (p := ⟨gb894, 0, none⟩) (Kd.V_mono HO891.out (fun k_ hk => (⟨hk, hk.2⟩ : _ ∧ k_ ≠ gb894))) (fun _ hk => hk.2) (.int .i64 t886)) (fun _ hk => hk.2) (.int .i64 t887)) (fun _ hk => hk.2) (.int .i64 t888)) (fun _ hk => hk.2) (.slice Ao30 t889.length co30)) (fun _ h_ => h_.1))) hb); replace BK881 := M0 (blk_below (g := gb881) (o := .cells #[.int .i64 t875, .int .i64 t876, .int .i64 t877, .slice Ao22 t878.length co22] 28 (0, 0)) (blk_far (blk_far (blk_far (blk_far BK881.out NB881_894.out _) NB881_894.out _) NB881_894.out _) NB881_894.out _) hb); replace BK894 := M0 (blk_below (g := gb894) (o := .cells #[.int .i64 t886, .int .i64 t887, .int .i64 t888, .slice Ao30 t889.length co30] 28 (0, 0)) (blk_put (blk_put (blk_put (blk_put BK894.out 0 _ rfl) 1 _ rfl) 2 _ rfl) 3 _ rfl) hb); replace HB := M0 (below_step (by repeat ((with_reducible first | exact HB.out | refine below_set ?_ GE894.out))) hb); clear hb; obtain ⟨_, _, _, _, _, _, _, _⟩ := cells4 BK881.out) | (go_at_call 17; (with_reducible refine (expr_Check.calls k _ _ t872 t875 t876 t877 _ _ t878 t896 _ ?side1 ?side2 ?side3 ?side4 A13.out).mono ?_); (case side1 => repeat (exact (Kd.R_reads' HO874.out).2.2)); (case side2 => exact (Kd.R_reads' HO874.out).2.1); (case side3 => repeat (exact (Kd.N_reads' HO880.out).2.2)); (case side4 => exact (Kd.N_reads' HO880.out).2.1); rintro e w34 ⟨rfl, hb⟩; clear HO874; clear HO880; clear HO891; clear BK881; clear BK894; replace HB := M0 (below_step HB.out hb); clear hb))
      go_ret
      exact ⟨by rfl, by with_reducible exact HB.out⟩
     ·rw [if_neg c15] at H
      have c15b0 : decide (2000 < (t885.size : Int)) = false := decide_eq_false c15
      have c15b1 : decide (2000 < t885.size) = false := decide_eq_false (by omega)
      clear c15
      by_cases c35 : t893 = 0
      ·rw [if_pos c35] at H
       have c35b0 := bT c35
       have c35b1 := nF c35
       clear c35
       by_cases c36 : t892 = 0
       ·rw [if_pos c36] at H
        have c36b0 := bT c36
        clear c36
        replace H := Option.bind_eq_some_iff.mp H
        obtain ⟨t897, A370, H⟩ := H
        try dsimp only at H
        have A37 := M0 A370
        clear A370
        obtain rfl := Option.some.inj H
        go_enter Try.func3, Try.ntmps3
        go_wp2_with (first | ((with_reducible refine gate_callee (f := 13) rfl ?_); refine goesL_ (some 11) rfl rfl Try.func13 (by kernel_rfl) rfl #[] rfl (by (simp only [List.map_toArray, List.map_cons, List.map_nil]); done) ?_; (with_reducible refine (canopylaw5_known.calls k  true _ A3.out rfl).mono ?_); rintro e w38 ⟨rfl, hb⟩; refine ⟨_, rfl, ?_⟩; replace HB := M0 (below_step HB.out hb); clear hb) | ((with_reducible refine gate_callee (f := 14) rfl ?_); refine goesL_ (some 15) rfl rfl Try.func14 (by kernel_rfl) rfl #[.int .i64 a0, .slice A1 l1.length c1] rfl (by (simp only [List.map_toArray, List.map_cons, List.map_nil]); rfl) ?_; (with_reducible refine (canopylaw1_Syms.calls a0 _ _ l1 t872 _ ?side1 ?side2 A5.out).mono ?_); (case side1 => repeat (exact (Kd.C_below HR1.out HB.out))); (case side2 => exact HC1.out); rintro e w39 ⟨v873, rfl, ho0, hb⟩; refine ⟨_, rfl, ?_⟩; have HO874 := M0 (Kd.R_lower ho0 (below_size HB.out)); replace HB := M0 (below_step HB.out hb); clear hb ho0; obtain ⟨Ao40, co40, eo40⟩ := Kd.R_slice HO874.out; subst eo40) | ((with_reducible refine gate_callee (f := 15) rfl ?_); refine goesL_ (some 18) rfl rfl Try.func15 (by kernel_rfl) rfl #[.slice Ao40 t872.length co40, .slice A1 l1.length c1, .int .i64 6] rfl (by (simp only [List.map_toArray, List.map_cons, List.map_nil]); rfl) ?_; (with_reducible refine (canopylaw5_Make.calls k _ _ t872 _ _ l1 6 t875 t876 t877 t878 _ ?side1 ?side2 ?side3 ?side4 A6.out).mono ?_); (case side1 => repeat (exact (Kd.R_reads' HO874.out).2.2)); (case side2 => exact (Kd.R_reads' HO874.out).2.1); (case side3 => repeat (exact (Kd.C_below HR1.out HB.out))); (case side4 => exact HC1.out); rintro e w41 ⟨v879, rfl, ho0, hb⟩; refine ⟨_, rfl, ?_⟩; have HO880 := M0 (Kd.N_lower (Kd.N_mono (ok' := fun k_ => some k_ ≠ (.slice Ao40 t872.length co40 : Value).ownBlock) ho0 (fun k_ hk_ => (Kd.fresh' (Kd.R_lt HO874.out) k_ hk_))) (below_size HB.out)); replace HO874 := M0 (Kd.R_below HO874.out hb); replace HB := M0 (below_step HB.out hb); clear hb ho0) | ((with_reducible refine gate_dst (N := 6) rfl ?_); refine box_event ?hg (N := 6) ?hd (cs := #[.int .i64 0, .int .i64 0, .int .i64 0, .slice none 0 0]) (t := 28) ?hr ?_; (case hd => rfl); (case hg => rfl); (case hr => (go_simp; done)); intro gb881 hg w42 hbox hb; replace HO874 := M0 (Kd.R_below HO874.out hb); replace HO880 := M0 (Kd.N_below (Kd.N_elderB HO880.out gb881 (Nat.le_of_eq hg.symm)) hb); have BK881 := M0 hbox; have GE881 := M0 ((by rw [hg]; exact (below_size HB.out) : w.heap.size ≤ gb881)); replace HB := M0 (below_step HB.out hb); clear hb hbox hg; obtain ⟨_, _, _, _, _, _, _, _⟩ := cells4 BK881.out; obtain ⟨Ao44, co44, eo44⟩ := Kd.N_slice HO880.out; subst eo44) | ((with_reducible refine gate_callee (f := 16) rfl ?_); refine goesL_ (some 21) rfl rfl Try.func16 (by kernel_rfl) rfl #[.slice Ao40 t872.length co40, .agg #[.int .i64 t875, .int .i64 t876, .int .i64 t877, .slice Ao44 t878.length co44]] rfl (by (simp only [List.map_toArray, List.map_cons, List.map_nil]); rfl) ?_; (with_reducible refine (canopyref5_Check.calls k _ _ t872 t875 t876 t877 _ _ t878 t882 _ ?side1 ?side2 ?side3 ?side4 A7.out).mono ?_); (case side1 => refine (Kd.R_reads' (e := 56) (base := w.heap.size) (ok := fun k_ => True) (n := t872.length) (c := co40) ?_).2.2; exact (by exact (Kd.R_mono (Kd.R_far (p := ⟨gb881, 3, none⟩) (Kd.R_far (p := ⟨gb881, 2, none⟩) (Kd.R_far (p := ⟨gb881, 1, none⟩) (Kd.R_far (p := ⟨gb881, 0, none⟩) (Kd.R_types HO874.out BK881.out (by decide)) (fun _ hk => hk.2) (.int .i64 t875)) (fun _ hk => hk.2) (.int .i64 t876)) (fun _ hk => hk.2) (.int .i64 t877)) (fun _ hk => hk.2) (.slice Ao44 t878.length co44)) (fun _ h_ => h_.1)))); (case side2 => exact (Kd.R_reads' HO874.out).2.1); (case side3 => refine (Kd.N_reads' (e := 28) (base := w.heap.size) (ok := fun k_ => (some k_ ≠ (.slice Ao40 t872.length co40 : Value).ownBlock ∧ k_ ≠ gb881)) (n := t878.length) (c := co44) ?_).2.2; exact (by exact (Kd.N_mono (Kd.N_far (p := ⟨gb881, 3, none⟩) (Kd.N_far (p := ⟨gb881, 2, none⟩) (Kd.N_far (p := ⟨gb881, 1, none⟩) (Kd.N_far (p := ⟨gb881, 0, none⟩) (Kd.N_mono HO880.out (fun k_ hk => (⟨hk, hk.2⟩ : _ ∧ k_ ≠ gb881))) (fun _ hk => hk.2) (.int .i64 t875)) (fun _ hk => hk.2) (.int .i64 t876)) (fun _ hk => hk.2) (.int .i64 t877)) (fun _ hk => hk.2) (.slice Ao44 t878.length co44)) (fun _ h_ => h_.1)))); (case side4 => exact (Kd.N_reads' HO880.out).2.1); rintro e w45 ⟨rfl, hb⟩; refine ⟨_, rfl, ?_⟩; replace HO874 := M0 (Kd.R_below (by exact (Kd.R_mono (Kd.R_far (p := ⟨gb881, 3, none⟩) (Kd.R_far (p := ⟨gb881, 2, none⟩) (Kd.R_far (p := ⟨gb881, 1, none⟩) (Kd.R_far (p := ⟨gb881, 0, none⟩) (Kd.R_types HO874.out BK881.out (by decide)) (fun _ hk => hk.2) (.int .i64 t875)) (fun _ hk => hk.2) (.int .i64 t876)) (fun _ hk => hk.2) (.int .i64 t877)) (fun _ hk => hk.2) (.slice Ao44 t878.length co44)) (fun _ h_ => h_.1))) hb); replace HO880 := M0 (Kd.N_below (by exact (Kd.N_mono (Kd.N_far (p := ⟨gb881, 3, none⟩) (Kd.N_far (p := ⟨gb881, 2, none⟩) (Kd.N_far (p := ⟨gb881, 1, none⟩) (Kd.N_far (p := ⟨gb881, 0, none⟩) (Kd.N_mono HO880.out (fun k_ hk => (⟨hk, hk.2⟩ : _ ∧ k_ ≠ gb881))) (fun _ hk => hk.2) (.int .i64 t875)) (fun _ hk => hk.2) (.int .i64 t876)) (fun _ hk => hk.2) (.int .i64 t877)) (fun _ hk => hk.2) (.slice Ao44 t878.length co44)) (fun _ h_ => h_.1))) hb); replace BK881 := M0 (blk_below (g := gb881) (o := .cells #[.int .i64 t875, .int .i64 t876, .int .i64 t877, .slice Ao44 t878.length co44] 28 (0, 0)) (blk_put (blk_put (blk_put (blk_put BK881.out 0 _ rfl) 1 _ rfl) 2 _ rfl) 3 _ rfl) hb); replace HB := M0 (below_step (by repeat ((with_reducible first | exact HB.out | refine below_set ?_ GE881.out))) hb); clear hb; obtain ⟨_, _, _, _, _, _, _, _⟩ := cells4 BK881.out) | ((with_reducible refine gate_callee (f := 18) rfl ?_); refine goesL_ (some 32) rfl rfl Try.func18 (by kernel_rfl) rfl #[.slice Ao40 t872.length co40, .agg #[.int .i64 t875, .int .i64 t876, .int .i64 t877, .slice Ao44 t878.length co44]] rfl (by (simp only [List.map_toArray, List.map_cons, List.map_nil]); rfl) ?_; (with_reducible refine (expr_Text.calls k _ _ t872 t875 t876 t877 _ _ t878 t885 _ ?side1 ?side2 ?side3 ?side4 A9.out).mono ?_); (case side1 => repeat (exact (Kd.R_reads' HO874.out).2.2)); (case side2 => exact (Kd.R_reads' HO874.out).2.1); (case side3 => repeat (exact (Kd.N_reads' HO880.out).2.2)); (case side4 => exact (Kd.N_reads' HO880.out).2.1); rintro e w47 ⟨rfl, hb⟩; refine ⟨_, rfl, ?_⟩; replace HO874 := M0 (Kd.R_below HO874.out hb); replace HO880 := M0 (Kd.N_below HO880.out hb); replace BK881 := M0 (blk_below BK881.out hb); replace HB := M0 (below_step HB.out hb); clear hb) | ((with_reducible refine gate_callee (f := 19) rfl ?_); refine goesL_ (some 36) rfl rfl Try.func19 (by kernel_rfl) rfl #[.slice Ao40 t872.length co40, .string t885] rfl (by (simp only [List.map_toArray, List.map_cons, List.map_nil]); rfl) ?_; (with_reducible refine (expr_Parse.calls k _ _ t872 t885 t886 t887 t888 t889 t892 t893 _ ?side1 ?side2 A10.out).mono ?_); (case side1 => repeat (exact (Kd.R_reads' HO874.out).2.2)); (case side2 => exact (Kd.R_reads' HO874.out).2.1); rintro e w48 ⟨v890, rfl, ho0, hb⟩; refine ⟨_, rfl, ?_⟩; have HO891 := M0 (Kd.V_lower (Kd.V_mono (ok' := fun k_ => some k_ ≠ (.slice Ao40 t872.length co40 : Value).ownBlock ∧ some k_ ≠ (.slice Ao44 t878.length co44 : Value).ownBlock ∧ k_ ≠ gb881) ho0 (fun k_ hk_ => ⟨(Kd.fresh' (Kd.R_lt HO874.out) k_ hk_), (Kd.fresh' (Kd.N_lt HO880.out) k_ hk_), (Kd.freshB BK881.out k_ hk_)⟩)) (below_size HB.out)); replace HO874 := M0 (Kd.R_below HO874.out hb); replace HO880 := M0 (Kd.N_below HO880.out hb); replace BK881 := M0 (blk_below BK881.out hb); replace HB := M0 (below_step HB.out hb); clear hb ho0) | ((with_reducible refine gate_dst (N := 8) rfl ?_); refine box_event ?hg (N := 8) ?hd (cs := #[.int .i64 0, .int .i64 0, .int .i64 0, .slice none 0 0]) (t := 28) ?hr ?_; (case hd => rfl); (case hg => rfl); (case hr => (go_simp; done)); intro gb894 hg w49 hbox hb; replace HO874 := M0 (Kd.R_below HO874.out hb); replace HO880 := M0 (Kd.N_below (Kd.N_elderB HO880.out gb894 (Nat.le_of_eq hg.symm)) hb); replace HO891 := M0 (Kd.V_below (Kd.V_elderB HO891.out gb894 (Nat.le_of_eq hg.symm)) hb); have BK894 := M0 hbox; have GE894 := M0 ((by rw [hg]; exact (below_size HB.out) : w.heap.size ≤ gb894)); replace HB := M0 (below_step HB.out hb); have NB881_894 := M0 ((by rw [hg]; exact Nat.ne_of_lt (blk_lt BK881.out) : gb881 ≠ gb894)); replace BK881 := M0 (blk_below BK881.out hb); clear hb hbox hg; have hnc50 := NB881_894.out; obtain ⟨_, _, _, _, _, _, _, _⟩ := cells4 BK894.out; obtain ⟨Ao52, co52, eo52⟩ := Kd.V_slice HO891.out; subst eo52; obtain ⟨_, _, _, _, _, _, _, _⟩ := cells4 BK881.out) | ((with_reducible refine gate_callee (f := 20) rfl ?_); refine goesL_ (some 43) rfl rfl Try.func20 (by kernel_rfl) rfl #[.slice Ao40 t872.length co40, .agg #[.int .i64 t875, .int .i64 t876, .int .i64 t877, .slice Ao44 t878.length co44]] rfl (by (simp only [List.map_toArray, List.map_cons, List.map_nil]); rfl) ?_; (with_reducible refine (canopyref5_Text.calls k _ _ t872 t875 t876 t877 _ _ t878 t895 _ ?side1 ?side2 ?side3 ?side4 A11.out).mono ?_); (case side1 => refine (Kd.R_reads' (e := 56) (base := w.heap.size) (ok := fun k_ => True) (n := t872.length) (c := co40) ?_).2.2; exact (by exact (Kd.R_mono (Kd.R_far (p := ⟨gb894, 3, none⟩) (Kd.R_far (p := ⟨gb894, 2, none⟩) (Kd.R_far (p := ⟨gb894, 1, none⟩) (Kd.R_far (p := ⟨gb894, 0, none⟩) (Kd.R_types HO874.out BK894.out (by decide)) (fun _ hk => hk.2) (.int .i64 t886)) (fun _ hk => hk.2) (.int .i64 t887)) (fun _ hk => hk.2) (.int .i64 t888)) (fun _ hk => hk.2) (.slice Ao52 t889.length co52)) (fun _ h_ => h_.1)))); (case side2 => exact (Kd.R_reads' HO874.out).2.1); (case side3 => refine (Kd.N_reads' (e := 28) (base := w.heap.size) (ok := fun k_ => ((some k_ ≠ (.slice Ao40 t872.length co40 : Value).ownBlock ∧ k_ ≠ gb881) ∧ k_ ≠ gb894)) (n := t878.length) (c := co44) ?_).2.2; exact (by exact (Kd.N_mono (Kd.N_far (p := ⟨gb894, 3, none⟩) (Kd.N_far (p := ⟨gb894, 2, none⟩) (Kd.N_far (p := ⟨gb894, 1, none⟩) (Kd.N_far (p := ⟨gb894, 0, none⟩) (Kd.N_mono HO880.out (fun k_ hk => (⟨hk, hk.2⟩ : _ ∧ k_ ≠ gb894))) (fun _ hk => hk.2) (.int .i64 t886)) (fun _ hk => hk.2) (.int .i64 t887)) (fun _ hk => hk.2) (.int .i64 t888)) (fun _ hk => hk.2) (.slice Ao52 t889.length co52)) (fun _ h_ => h_.1)))); (case side4 => exact (Kd.N_reads' HO880.out).2.1); rintro e w54 ⟨rfl, hb⟩; refine ⟨_, rfl, ?_⟩; replace HO874 := M0 (Kd.R_below (by exact (Kd.R_mono (Kd.R_far (p := ⟨gb894, 3, none⟩) (Kd.R_far (p := ⟨gb894, 2, none⟩) (Kd.R_far (p := ⟨gb894, 1, none⟩) (Kd.R_far (p := ⟨gb894, 0, none⟩) (Kd.R_types HO874.out BK894.out (by decide)) (fun _ hk => hk.2) (.int .i64 t886)) (fun _ hk => hk.2) (.int .i64 t887)) (fun _ hk => hk.2) (.int .i64 t888)) (fun _ hk => hk.2) (.slice Ao52 t889.length co52)) (fun _ h_ => h_.1))) hb); replace HO880 := M0 (Kd.N_below (by exact (Kd.N_mono (Kd.N_far (p := ⟨gb894, 3, none⟩) (Kd.N_far (p := ⟨gb894, 2, none⟩) (Kd.N_far (p := ⟨gb894, 1, none⟩) (Kd.N_far (p := ⟨gb894, 0, none⟩) (Kd.N_mono HO880.out (fun k_ hk => (⟨hk, hk.2⟩ : _ ∧ k_ ≠ gb894))) (fun _ hk => hk.2) (.int .i64 t886)) (fun _ hk => hk.2) (.int .i64 t887)) (fun _ hk => hk.2) (.int .i64 t888)) (fun _ hk => hk.2) (.slice Ao52 t889.length co52)) (fun _ h_ => h_.1))) hb); replace HO891 := M0 (Kd.V_below (by exact (Kd.V_mono (Kd.V_far (p := ⟨gb894, 3, none⟩) (Kd.V_far (p := ⟨gb894, 2, none⟩) (Kd.V_far (p := ⟨gb894, 1, none⟩) (Kd.V_far (p := ⟨gb894, 0, none⟩) (Kd.V_mono HO891.out (fun k_ hk => (⟨hk, hk.2⟩ : _ ∧ k_ ≠ gb894))) (fun _ hk => hk.2) (.int .i64 t886)) (fun _ hk => hk.2) (.int .i64 t887)) (fun _ hk => hk.2) (.int .i64 t888)) (fun _ hk => hk.2) (.slice Ao52 t889.length co52)) (fun _ h_ => h_.1))) hb); replace BK881 := M0 (blk_below (g := gb881) (o := .cells #[.int .i64 t875, .int .i64 t876, .int .i64 t877, .slice Ao44 t878.length co44] 28 (0, 0)) (blk_far (blk_far (blk_far (blk_far BK881.out NB881_894.out _) NB881_894.out _) NB881_894.out _) NB881_894.out _) hb); replace BK894 := M0 (blk_below (g := gb894) (o := .cells #[.int .i64 t886, .int .i64 t887, .int .i64 t888, .slice Ao52 t889.length co52] 28 (0, 0)) (blk_put (blk_put (blk_put (blk_put BK894.out 0 _ rfl) 1 _ rfl) 2 _ rfl) 3 _ rfl) hb); replace HB := M0 (below_step (by repeat ((with_reducible first | exact HB.out | refine below_set ?_ GE894.out))) hb); clear hb; obtain ⟨_, _, _, _, _, _, _, _⟩ := cells4 BK881.out) | (go_at_call 17; (with_reducible refine (expr_Check.calls k _ _ t872 t875 t876 t877 _ _ t878 t896 _ ?side1 ?side2 ?side3 ?side4 A13.out).mono ?_); (case side1 => repeat (exact (Kd.R_reads' HO874.out).2.2)); (case side2 => exact (Kd.R_reads' HO874.out).2.1); (case side3 => repeat (exact (Kd.N_reads' HO880.out).2.2)); (case side4 => exact (Kd.N_reads' HO880.out).2.1); rintro e w56 ⟨rfl, hb⟩; replace HO874 := M0 (Kd.R_below HO874.out hb); replace HO880 := M0 (Kd.N_below HO880.out hb); replace HO891 := M0 (Kd.V_below HO891.out hb); replace BK881 := M0 (blk_below BK881.out hb); replace BK894 := M0 (blk_below BK894.out hb); replace HB := M0 (below_step HB.out hb); clear hb; obtain ⟨_, _, _, _, _, _, _, _⟩ := cells4 BK894.out; obtain ⟨_, _, _, _, _, _, _, _⟩ := cells4 BK881.out) | (go_at_call 21; (with_reducible refine (canopyref5_Same.calls k t886 t887 t888 _ _ t889 t875 t876 t877 _ _ t878 t897 _ ?side1 ?side2 ?side3 ?side4 A37.out).mono ?_); (case side1 => repeat (exact (Kd.V_reads' HO891.out).2.2)); (case side2 => exact (Kd.V_reads' HO891.out).2.1); (case side3 => repeat (exact (Kd.N_reads' HO880.out).2.2)); (case side4 => exact (Kd.N_reads' HO880.out).2.1); rintro e w59 ⟨rfl, hb⟩; clear HO874; clear HO880; clear HO891; clear BK881; clear BK894; replace HB := M0 (below_step HB.out hb); clear hb))
        go_ret
        exact ⟨by (simp [*, errW_none, errW_some] <;> rfl), by with_reducible exact HB.out⟩
       ·rw [if_neg c36] at H
        exact absurd ((Option.some.inj H).trans hr) (by decide)
      ·rw [if_neg c35] at H
       exact absurd ((Option.some.inj H).trans hr) (by decide)
    ·rw [if_neg c14] at H
     exact absurd ((Option.some.inj H).trans hr) (by decide)
   ·rw [if_neg c12] at H
    exact absurd ((Option.some.inj H).trans hr) (by decide)
  ·rw [if_neg c8] at H
   have c8b1 := nT c8
   replace H := Option.bind_eq_some_iff.mp H
   obtain ⟨t883, A1340, H⟩ := H
   try dsimp only at H
   have A134 := M0 A1340
   clear A1340
   replace H := Option.bind_eq_some_iff.mp H
   obtain ⟨t884, A1350, H⟩ := H
   try dsimp only at H
   have A135 := M0 A1350
   clear A1350
   obtain rfl := Option.some.inj H
   go_enter Try.func3, Try.ntmps3
   go_wp2_with (first | ((with_reducible refine gate_callee (f := 13) rfl ?_); refine goesL_ (some 11) rfl rfl Try.func13 (by kernel_rfl) rfl #[] rfl (by (simp only [List.map_toArray, List.map_cons, List.map_nil]); done) ?_; (with_reducible refine (canopylaw5_known.calls k  true _ A3.out rfl).mono ?_); rintro e w136 ⟨rfl, hb⟩; refine ⟨_, rfl, ?_⟩; replace HB := M0 (below_step HB.out hb); clear hb) | ((with_reducible refine gate_callee (f := 14) rfl ?_); refine goesL_ (some 15) rfl rfl Try.func14 (by kernel_rfl) rfl #[.int .i64 a0, .slice A1 l1.length c1] rfl (by (simp only [List.map_toArray, List.map_cons, List.map_nil]); rfl) ?_; (with_reducible refine (canopylaw1_Syms.calls a0 _ _ l1 t872 _ ?side1 ?side2 A5.out).mono ?_); (case side1 => repeat (exact (Kd.C_below HR1.out HB.out))); (case side2 => exact HC1.out); rintro e w137 ⟨v873, rfl, ho0, hb⟩; refine ⟨_, rfl, ?_⟩; have HO874 := M0 (Kd.R_lower ho0 (below_size HB.out)); replace HB := M0 (below_step HB.out hb); clear hb ho0; obtain ⟨Ao138, co138, eo138⟩ := Kd.R_slice HO874.out; subst eo138) | ((with_reducible refine gate_callee (f := 15) rfl ?_); refine goesL_ (some 18) rfl rfl Try.func15 (by kernel_rfl) rfl #[.slice Ao138 t872.length co138, .slice A1 l1.length c1, .int .i64 6] rfl (by (simp only [List.map_toArray, List.map_cons, List.map_nil]); rfl) ?_; (with_reducible refine (canopylaw5_Make.calls k _ _ t872 _ _ l1 6 t875 t876 t877 t878 _ ?side1 ?side2 ?side3 ?side4 A6.out).mono ?_); (case side1 => repeat (exact (Kd.R_reads' HO874.out).2.2)); (case side2 => exact (Kd.R_reads' HO874.out).2.1); (case side3 => repeat (exact (Kd.C_below HR1.out HB.out))); (case side4 => exact HC1.out); rintro e w139 ⟨v879, rfl, ho0, hb⟩; refine ⟨_, rfl, ?_⟩; have HO880 := M0 (Kd.N_lower (Kd.N_mono (ok' := fun k_ => some k_ ≠ (.slice Ao138 t872.length co138 : Value).ownBlock) ho0 (fun k_ hk_ => (Kd.fresh' (Kd.R_lt HO874.out) k_ hk_))) (below_size HB.out)); replace HO874 := M0 (Kd.R_below HO874.out hb); replace HB := M0 (below_step HB.out hb); clear hb ho0) | ((with_reducible refine gate_dst (N := 6) rfl ?_); refine box_event ?hg (N := 6) ?hd (cs := #[.int .i64 0, .int .i64 0, .int .i64 0, .slice none 0 0]) (t := 28) ?hr ?_; (case hd => rfl); (case hg => rfl); (case hr => (go_simp; done)); intro gb881 hg w140 hbox hb; replace HO874 := M0 (Kd.R_below HO874.out hb); replace HO880 := M0 (Kd.N_below (Kd.N_elderB HO880.out gb881 (Nat.le_of_eq hg.symm)) hb); have BK881 := M0 hbox; have GE881 := M0 ((by rw [hg]; exact (below_size HB.out) : w.heap.size ≤ gb881)); replace HB := M0 (below_step HB.out hb); clear hb hbox hg; obtain ⟨_, _, _, _, _, _, _, _⟩ := cells4 BK881.out; obtain ⟨Ao142, co142, eo142⟩ := Kd.N_slice HO880.out; subst eo142) | ((with_reducible refine gate_callee (f := 16) rfl ?_); refine goesL_ (some 21) rfl rfl Try.func16 (by kernel_rfl) rfl #[.slice Ao138 t872.length co138, .agg #[.int .i64 t875, .int .i64 t876, .int .i64 t877, .slice Ao142 t878.length co142]] rfl (by (simp only [List.map_toArray, List.map_cons, List.map_nil]); rfl) ?_; (with_reducible refine (canopyref5_Check.calls k _ _ t872 t875 t876 t877 _ _ t878 t882 _ ?side1 ?side2 ?side3 ?side4 A7.out).mono ?_); (case side1 => refine (Kd.R_reads' (e := 56) (base := w.heap.size) (ok := fun k_ => True) (n := t872.length) (c := co138) ?_).2.2; exact (by exact (Kd.R_mono (Kd.R_far (p := ⟨gb881, 3, none⟩) (Kd.R_far (p := ⟨gb881, 2, none⟩) (Kd.R_far (p := ⟨gb881, 1, none⟩) (Kd.R_far (p := ⟨gb881, 0, none⟩) (Kd.R_types HO874.out BK881.out (by decide)) (fun _ hk => hk.2) (.int .i64 t875)) (fun _ hk => hk.2) (.int .i64 t876)) (fun _ hk => hk.2) (.int .i64 t877)) (fun _ hk => hk.2) (.slice Ao142 t878.length co142)) (fun _ h_ => h_.1)))); (case side2 => exact (Kd.R_reads' HO874.out).2.1); (case side3 => refine (Kd.N_reads' (e := 28) (base := w.heap.size) (ok := fun k_ => (some k_ ≠ (.slice Ao138 t872.length co138 : Value).ownBlock ∧ k_ ≠ gb881)) (n := t878.length) (c := co142) ?_).2.2; exact (by exact (Kd.N_mono (Kd.N_far (p := ⟨gb881, 3, none⟩) (Kd.N_far (p := ⟨gb881, 2, none⟩) (Kd.N_far (p := ⟨gb881, 1, none⟩) (Kd.N_far (p := ⟨gb881, 0, none⟩) (Kd.N_mono HO880.out (fun k_ hk => (⟨hk, hk.2⟩ : _ ∧ k_ ≠ gb881))) (fun _ hk => hk.2) (.int .i64 t875)) (fun _ hk => hk.2) (.int .i64 t876)) (fun _ hk => hk.2) (.int .i64 t877)) (fun _ hk => hk.2) (.slice Ao142 t878.length co142)) (fun _ h_ => h_.1)))); (case side4 => exact (Kd.N_reads' HO880.out).2.1); rintro e w143 ⟨rfl, hb⟩; refine ⟨_, rfl, ?_⟩; replace HO874 := M0 (Kd.R_below (by exact (Kd.R_mono (Kd.R_far (p := ⟨gb881, 3, none⟩) (Kd.R_far (p := ⟨gb881, 2, none⟩) (Kd.R_far (p := ⟨gb881, 1, none⟩) (Kd.R_far (p := ⟨gb881, 0, none⟩) (Kd.R_types HO874.out BK881.out (by decide)) (fun _ hk => hk.2) (.int .i64 t875)) (fun _ hk => hk.2) (.int .i64 t876)) (fun _ hk => hk.2) (.int .i64 t877)) (fun _ hk => hk.2) (.slice Ao142 t878.length co142)) (fun _ h_ => h_.1))) hb); replace HO880 := M0 (Kd.N_below (by exact (Kd.N_mono (Kd.N_far (p := ⟨gb881, 3, none⟩) (Kd.N_far (p := ⟨gb881, 2, none⟩) (Kd.N_far (p := ⟨gb881, 1, none⟩) (Kd.N_far (p := ⟨gb881, 0, none⟩) (Kd.N_mono HO880.out (fun k_ hk => (⟨hk, hk.2⟩ : _ ∧ k_ ≠ gb881))) (fun _ hk => hk.2) (.int .i64 t875)) (fun _ hk => hk.2) (.int .i64 t876)) (fun _ hk => hk.2) (.int .i64 t877)) (fun _ hk => hk.2) (.slice Ao142 t878.length co142)) (fun _ h_ => h_.1))) hb); replace BK881 := M0 (blk_below (g := gb881) (o := .cells #[.int .i64 t875, .int .i64 t876, .int .i64 t877, .slice Ao142 t878.length co142] 28 (0, 0)) (blk_put (blk_put (blk_put (blk_put BK881.out 0 _ rfl) 1 _ rfl) 2 _ rfl) 3 _ rfl) hb); replace HB := M0 (below_step (by repeat ((with_reducible first | exact HB.out | refine below_set ?_ GE881.out))) hb); clear hb))
   have n0_ := M0 (Kd.R_drew HO874.out)
   have n1_ := M0 (Kd.N_drew HO880.out)
   have n2_ := M0 (blk_drew BK881.out)
   have n3_ := M0 (below_drew1 HB.out)
   clear HO874 HO880 BK881 HB
   have HO874 := n0_
   have HO880 := n1_
   have BK881 := n2_
   have HB := n3_
   clear n0_ n1_ n2_ n3_
   refine start_ (n := 8) (S := fun w' => w'.cell? ⟨gb881, 0, none⟩ = some (.int .i64 t875) ∧ w'.cell? ⟨gb881, 1, none⟩ = some (.int .i64 t876) ∧ w'.cell? ⟨gb881, 2, none⟩ = some (.int .i64 t877) ∧ w'.cell? ⟨gb881, 3, none⟩ = some (.slice Ao142 t878.length co142)) (ds := []) #[false, false, false, false, false, false, false, false] (by kernel_rfl) rfl rfl ⟨(blk_cell BK881.out 0).trans rfl, (blk_cell BK881.out 1).trans rfl, (blk_cell BK881.out 2).trans rfl, (blk_cell BK881.out 3).trans rfl⟩ (fun hHeld => ?_); refine with_tabW canopylaw5_ExprBack.tab6 canopylaw5_ExprBack.bits6 (fun HT_ HW_ => ?_)
   generalize w143.drew = w144 at HO874 HO880 BK881 HB hHeld ⊢
   refine pure_ (i := 0) (N := some 23) (v := ?_) (a' := ?_) #[true, false, false, false, false, false, false, false] rfl rfl (any_of HT_.out (by kernel_rfl)) (fun _ _ _ h => h) (Or.inl ⟨by rfl, ?_⟩) ?_ ?_
   rotate_left
   ·intro w'
    go_simp
    with_reducible rfl
   rotate_left
   ·simp only [Act.put, List.setIfInBounds_toArray, List.set_cons_zero, List.set_cons_succ, i64_w, i32_w]
    rfl
   refine pure_ (i := 3) (N := some 26) (v := ?_) (a' := ?_) #[true, false, false, true, false, false, false, false] rfl rfl (any_of HT_.out (by kernel_rfl)) (fun _ _ _ h => h) (Or.inl ⟨by rfl, ?_⟩) ?_ ?_
   rotate_left
   ·intro w'
    go_simp
    with_reducible rfl
   rotate_left
   ·simp only [Act.put, List.setIfInBounds_toArray, List.set_cons_zero, List.set_cons_succ, i64_w, i32_w]
    rfl
   refine take_ (i := 1) (N := some 24) (v := ?_) (a' := ?_) #[true, true, false, true, false, false, false, false] rfl rfl (take_ofW HT_.out HW_.out (by kernel_rfl)) (fun _ _ _ h => h) (Or.inl ⟨by rfl, ?_⟩) hHeld ?_ ?_
   rotate_left
   ·rintro w' ⟨s0, s1, s2, s3⟩
    go_simp
    with_reducible rfl
   rotate_left
   ·simp only [Act.put, List.setIfInBounds_toArray, List.set_cons_zero, List.set_cons_succ, i64_w, i32_w]
    rfl
   refine take_ (i := 4) (N := some 27) (v := ?_) (a' := ?_) #[true, true, false, true, true, false, false, false] rfl rfl (take_ofW HT_.out HW_.out (by kernel_rfl)) (fun _ _ _ h => h) (Or.inl ⟨by rfl, ?_⟩) hHeld ?_ ?_
   rotate_left
   ·rintro w' ⟨s0, s1, s2, s3⟩
    go_simp
    with_reducible rfl
   rotate_left
   ·simp only [Act.put, List.setIfInBounds_toArray, List.set_cons_zero, List.set_cons_succ, i64_w, i32_w]
    rfl
   refine one_ (i := 2) (N := some 25) #[true, true, true, true, true, false, false, false] rfl rfl (one_of HT_.out (by kernel_rfl)) (by decide) (fun K hK => ?_)
   refine goes_ Try.func17 (by kernel_rfl) rfl #[.slice Ao138 t872.length co138, .agg #[.int .i64 t875, .int .i64 t876, .int .i64 t877, .slice Ao142 t878.length co142]] (by rfl) rfl rfl (by (simp only [List.map_toArray, List.map_cons, List.map_nil]); rfl) ?_
   with_reducible refine (expr_Check.calls k _ _ t872 t875 t876 t877 _ _ t878 t883 _ ?side1 ?side2 ?side3 ?side4 A134.out).mono ?_
   (case side1 => repeat (exact (Kd.R_reads' HO874.out).2.2))
   (case side2 => exact (Kd.R_reads' HO874.out).2.1)
   (case side3 => repeat (exact (Kd.N_reads' HO880.out).2.2))
   (case side4 => exact (Kd.N_reads' HO880.out).2.1)
   rintro e w145 ⟨rfl, hb⟩
   refine ⟨_, rfl, ?_⟩
   have n0_ := M0 (Kd.R_below HO874.out hb)
   have n1_ := M0 (Kd.N_below HO880.out hb)
   have n2_ := M0 (blk_below BK881.out hb)
   have n3_ := M0 (below_step HB.out hb)
   clear HO874 HO880 BK881 HB
   have HO874 := n0_
   have HO880 := n1_
   have BK881 := n2_
   have HB := n3_
   clear n0_ n1_ n2_ n3_
   (clear hb)
   (skip)
   (skip)
   (skip)
   refine hK.out _ _ ⟨(blk_cell BK881.out 0).trans rfl, (blk_cell BK881.out 1).trans rfl, (blk_cell BK881.out 2).trans rfl, (blk_cell BK881.out 3).trans rfl⟩ (fun hHeld => ?_)
   clear hK K
   refine norm_ (a' := ?_) ?_ ?_
   rotate_left
   ·show Act.put _ (some 25) _ = _
    simp only [Act.put, List.setIfInBounds_toArray, List.set_cons_zero, List.set_cons_succ, i64_w, i32_w]
    rfl
   refine one_ (i := 5) (N := some 28) #[true, true, true, true, true, true, false, false] rfl rfl (one_of HT_.out (by kernel_rfl)) (by decide) (fun K hK => ?_)
   refine goes_ Try.func16 (by kernel_rfl) rfl #[.slice Ao138 t872.length co138, .agg #[.int .i64 t875, .int .i64 t876, .int .i64 t877, .slice Ao142 t878.length co142]] (by rfl) rfl rfl (by (simp only [List.map_toArray, List.map_cons, List.map_nil]); rfl) ?_
   with_reducible refine (canopyref5_Check.calls k _ _ t872 t875 t876 t877 _ _ t878 t884 _ ?side1 ?side2 ?side3 ?side4 A135.out).mono ?_
   (case side1 => repeat (exact (Kd.R_reads' HO874.out).2.2))
   (case side2 => exact (Kd.R_reads' HO874.out).2.1)
   (case side3 => repeat (exact (Kd.N_reads' HO880.out).2.2))
   (case side4 => exact (Kd.N_reads' HO880.out).2.1)
   rintro e w146 ⟨rfl, hb⟩
   refine ⟨_, rfl, ?_⟩
   have n0_ := M0 (Kd.R_below HO874.out hb)
   have n1_ := M0 (Kd.N_below HO880.out hb)
   have n2_ := M0 (blk_below BK881.out hb)
   have n3_ := M0 (below_step HB.out hb)
   clear HO874 HO880 BK881 HB
   have BK881 := n2_
   have HB := n3_
   clear n0_ n1_ n2_ n3_
   (clear hb)
   (skip)
   (skip)
   (skip)
   refine hK.out _ _ ⟨(blk_cell BK881.out 0).trans rfl, (blk_cell BK881.out 1).trans rfl, (blk_cell BK881.out 2).trans rfl, (blk_cell BK881.out 3).trans rfl⟩ (fun hHeld => ?_)
   clear hK K
   refine norm_ (a' := ?_) ?_ ?_
   rotate_left
   ·show Act.put _ (some 28) _ = _
    simp only [Act.put, List.setIfInBounds_toArray, List.set_cons_zero, List.set_cons_succ, i64_w, i32_w]
    rfl
   refine pure_ (i := 6) (N := some 29) (v := ?_) (a' := ?_) #[true, true, true, true, true, true, true, false] rfl rfl (any_of HT_.out (by kernel_rfl)) (fun _ _ _ h => h) (Or.inl ⟨by rfl, ?_⟩) ?_ ?_
   rotate_left
   ·intro w'
    go_simp
    with_reducible rfl
   rotate_left
   ·simp only [Act.put, List.setIfInBounds_toArray, List.set_cons_zero, List.set_cons_succ, i64_w, i32_w]
    rfl
   refine pure_ (i := 7) (N := some 4) (v := ?_) (a' := ?_) #[true, true, true, true, true, true, true, true] rfl rfl (any_of HT_.out (by kernel_rfl)) (fun _ _ _ h => h) (Or.inl ⟨by rfl, ?_⟩) ?_ ?_
   rotate_left
   ·intro w'
    go_simp
    with_reducible rfl
   rotate_left
   ·simp only [Act.put, List.setIfInBounds_toArray, List.set_cons_zero, List.set_cons_succ, i64_w, i32_w]
    rfl
   refine done_ (done_of HT_.out (by kernel_rfl)) ?_
   go_wp2
   go_ret
   exact ⟨by (simp [*, errW_none, errW_some] <;> rfl), by with_reducible exact HB.out⟩
 ·replace c4 := Bool.eq_false_iff.mpr c4
  subst c4
  rw [if_neg (show ¬ (false = true) by decide)] at H
  exact absurd ((Option.some.inj H).trans hr) (by decide)
def canopylaw5_ExprBack.Pure : Prop := ∀ (a0 : Int) (l1 : List Int), (Lit.int .i64 a0).wf = true → l1.length ≤ maxLen → l1.length * 8 ≤ 140737488351232 → (∀ x ∈ l1, (Lit.int .i64 x).wf = true) → ∃ k, canopylaw5_ExprBack.f k a0 l1 = some true
theorem canopylaw5_ExprBack.walk (P : canopylaw5_ExprBack.Pure) (a0 : Int) (a1 : Option Addr) (len1 cap1 : Nat) (z1 : List Int) (w : World) (w0 : (Lit.int .i64 a0).wf = true) (w1 : (a1 = none ∧ len1 = 0 ∧ cap1 = 0 ∧ z1 = []) ∨ ∃ x, a1 = some x ∧ len1 ≤ cap1 ∧ cap1 ≤ maxLen ∧ z1.length = cap1 ∧ (∀ i, i < z1.length → w.cell? (x.add i) = some (.int .i64 (z1.getD i 0))) ∧ ∀ n ∈ z1, (Lit.int .i64 n).wf = true) (y1 : len1 * 8 ≤ 140737488351232) :
  Calls Try.prog 3 #[.int .i64 a0, .slice a1 len1 cap1] w fun e w' => e = .returned (.bool true) ∧ Below w.heap.size w w' := by
 obtain ⟨l1, rfl, hr1, hm1, hw1, hc1⟩ := ReadsInt.ofRowC w1
 obtain ⟨k, h⟩ := P a0 l1 w0 hm1 y1 hw1
 refine (canopylaw5_ExprBack.calls k a0 _ _ l1 true w (Kd.C_of_reads (d := (0 : Int)) (h1 := fun _ => rfl) hr1) hc1 h rfl).mono ?_
 rintro e w' ⟨rfl, hd⟩
 exact ⟨rfl, hd⟩
end Go.Proofs.Ytodbnnfiadcbaaa.P
namespace Go.Proofs.Ytodbnnfiadcbaaa.Pure
open Go.RowKit Go.Proofs.Ytodbnnfiadcbaaa.P Go.Proofs.YtodbnnfiadcbaaaW.PrintWords Go.Proofs.YtodbnnfiadcbaaaW.PrintLast Go.Proofs.YtodbnnfiadcbaaaW.PrintMore Go.Proofs.YtodbnnfiadcbaaaL
theorem Check_ev (l : List S56) (e : S28) (h : tsize e ≤ 1000000000) : Ev (fun k => expr_Check.f k l e.f0 e.f1 e.f2 e.f3) (treeErr l e) := by
 have := check_ev l e h
 cases e
 exact this
theorem fit_ok {l : List S56} {e : S28} (h : treeErr l e = 0) : Fit l e ∧ tsize e ≤ 200 := by
 have hd : ¬ 20 < tdeep e := fun q => by rw [treeErr, if_pos q] at h; cases h
 have hs : ¬ 200 < tsize e := fun q => by rw [treeErr, if_neg hd, if_pos q] at h; cases h
 rw [treeErr, if_neg hd, if_neg hs] at h
 refine ⟨⟨?_, ?_⟩, by omega⟩
 ·cases hq : tformed e with
  | true => rfl
  | false => rw [hq] at h; cases h
 ·cases hq : tbad l e with
  | false => rfl
  | true =>
   cases hf : tformed e with
   | true => rw [hf, hq] at h; cases h
   | false => rw [hf] at h; cases h
theorem ExprBack : canopylaw5_ExprBack.Pure := by
 intro n ns _ hlen hlen2 _
 obtain ⟨l, hl, hg⟩ := syms_good n ns
 have hgl := good_len hg
 obtain ⟨e, ⟨he, _⟩, hE⟩ := Make_ev l ns hgl.1 (by omega) (good_kinds hg) (by omega) 6 (by decide)
 have he9 : tsize e ≤ 1000000000 := Nat.le_trans he (by decide)
 refine Ev.rounds (r := true) ?_
 unfold canopylaw5_ExprBack.f
 refine Ev.bind known_ev ?_
 refine Ev.congr (fun k => by rw [if_pos rfl, hl, Option.bind_some]) ?_
 refine Ev.bind hE ?_
 refine Ev.bind (rcheck_ev l (good_kinds hg) e he9) ?_
 by_cases h0 : treeErr l e = 0
 ·refine Ev.congr (fun k => by rw [if_pos h0]) ?_
  obtain ⟨hf, hs⟩ := fit_ok h0
  refine Ev.bind (text_ev hg _ e (Nat.le_refl _) (Nat.le_trans hs (by decide)) hf) ?_
  have tail : ∀ r : Int × Int × Int × List S28 × Int × Int, (2000 < (B (textT l e)).size ∨ r = six (e, 0, 0)) → Ev (fun k => (canopyref5_Text.f k l e.f0 e.f1 e.f2 e.f3).bind fun t895 => (if (B (textT l e)).toList = t895.toList then ((expr_Check.f k l e.f0 e.f1 e.f2 e.f3).bind fun t896 => (if t896 = 0 then (if ((B (textT l e)).size : Int) > 2000 then (some true) else (if r.2.2.2.2.2 = 0 then (if r.2.2.2.2.1 = 0 then ((canopyref5_Same.f k r.1 r.2.1 r.2.2.1 r.2.2.2.1 e.f0 e.f1 e.f2 e.f3).bind fun t897 => (some t897)) else (some false)) else (some false))) else (some false))) else (some false))) true := by
   intro r hr
   refine Ev.bind (rtext_ev hg _ e (Nat.le_refl _) (Nat.le_trans hs (by decide)) hf) ?_
   refine Ev.congr (fun k => by rw [if_pos rfl]) ?_
   refine Ev.bind (Check_ev l e he9) ?_
   refine Ev.congr (fun k => by rw [if_pos h0]) ?_
   by_cases hz : 2000 < (B (textT l e)).size
   ·exact Ev.congr (f := fun _ => some true) (fun k => by rw [if_pos (by omega)]) (Ev.now _)
   ·obtain rfl := hr.resolve_left hz
    refine Ev.congr (fun k => by rw [if_neg (by omega), if_pos (show (six (e, 0, 0)).2.2.2.2.2 = 0 from rfl), if_pos (show (six (e, 0, 0)).2.2.2.2.1 = 0 from rfl)]) ?_
    exact Ev.bind (same_ev _ e (Nat.le_refl _) he9) (Ev.now _)
  by_cases hz : 2000 < (B (textT l e)).size
  ·refine Ev.congr (fun k => by rw [parse_long hz k, Option.bind_some]) ?_
   exact tail _ (.inl hz)
  ·obtain ⟨K, hK⟩ := parse_text hg h0
   have hK := hK K (Nat.le_refl _)
   have hp : ∃ n r, aOr l (L (B (textT l e))) n 0 (nx (L (B (textT l e))) 0) = some r ∧ tell l (L (B (textT l e))) r = (e, 0, 0) := by
    rw [L_B]
    simp only [aParse] at hK
    cases hr : aOr l (textT l e) K 0 (nx (textT l e) 0) with
    | none => rw [hr] at hK; cases hK
    | some r =>
     rw [hr] at hK
     refine ⟨K, r, hr, ?_⟩
     have hK := Option.some.inj hK
     rw [← hK]
     cases r <;> rfl
   obtain ⟨m, r, h1, h2⟩ := hp
   have := parse_sim (l := l) (s := B (textT l e)) (by omega) (by omega) h1
   rw [h2] at this
   refine Ev.bind this ?_
   exact tail _ (.inr rfl)
 ·refine Ev.congr (fun k => by rw [if_neg h0]) ?_
  refine Ev.bind (Check_ev l e he9) ?_
  refine Ev.bind (rcheck_ev l (good_kinds hg) e he9) ?_
  exact Ev.congr (f := fun _ => some true) (fun k => by simp) (Ev.now _)
end Go.Proofs.Ytodbnnfiadcbaaa.Pure
namespace Go.Proofs.Ytodbnnfiadcbaaa.exprBack
open Go.ChangeShapes Go.WideShapes Go.ChangeAt Go.RowKit
open Go.ChangeMaps (open_string shut_string)
set_option linter.unusedVariables false
theorem own : ownKnob Try.prog.godebug = none := by kernel_rfl
theorem laidOut : laidOutB Try.prog = true := by kernel_rfl
def IsRow (k : IntKind) (w : World) (a : Option Addr) (len cap : Nat) (zs : List Int) : Prop :=
 (a = none ∧ len = 0 ∧ cap = 0 ∧ zs = []) ∨
 ∃ x, a = some x ∧ len ≤ cap ∧ cap ≤ maxLen ∧ zs.length = cap ∧ (∀ i, i < zs.length → w.cell? (x.add i) = some (.int k (zs.getD i 0))) ∧ ∀ n ∈ zs, (Lit.int k n).wf = true
set_option maxRecDepth 100000 in
theorem lifted (os : Os) (started : os.Started) (H : Type) (enc : TypeId × Value → H) :
  ReturnsInHanded {} Try.checked os 3 .any (Rows.exprBackSpec.pre6 enc Try.prog Try.f3 Rows.exprBackRow.domain false) (Rows.exprBackSpec.post enc Try.prog Try.f3 false true false false) := by
 refine returnsInHanded_of_change_sized (C := Try.checked) own started (by kernel_rfl) Try.func3
  (ChangeSpec.witness6 (enc := enc) (C := Try.checked) false ⟨#[], #[.int .i64 0, .slice none 0 0], []⟩ 8 (by kernel_rfl) (by kernel_rfl) (by kernel_rfl) (by kernel_rfl)) ?_
 intro W base args ds gs before hval0 hW hcnd hsz0 _
 have hsz : (DataW.weightsEach Try.prog (Try.f3.params.toList ++ Rows.exprBackSpec.plain.varTypes Try.prog) (ds ++ gs)).all (· ≤ reachBytes) = true := hsz0
 have hval : ∀ (j : Nat) t v, Try.f3.params[j]? = some t → args[j]? = some v → Value.okWide Try.prog W .any base t v := hval0
 have hW' := hW
 obtain ⟨p, q, hA0, hV, rfl, hfz, hnd⟩ := hW
 have hA : DataW.TrodAll enc Try.prog W 0 (fun _ => true) true Try.f3.params.toList args.toList ds p := hA0
 rw [Try.params3] at hA hval hsz
 obtain ⟨v0, vs0, d0, ds0, p0, q0, hargs, rfl, rfl, h0, r0⟩ := trodAll_cons hA
 obtain ⟨v1, vs1, d1, ds1, p1, q1, rfl, rfl, rfl, h1, r1⟩ := trodAll_cons r0
 obtain ⟨rfl, rfl, rfl⟩ := trodAll_nil r1
 obtain rfl : args = #[v0, v1] := by cases args; simp_all
 obtain ⟨rfl, rfl⟩ := trodVars_none hV
 obtain ⟨a0, rfl, rfl, rfl, w0⟩ := open_int Try.underlying3 (hval 0 3 v0 rfl rfl) h0
 obtain ⟨a1, len1, cap1, rfl⟩ := okWide_slice Try.underlying22 (hval 1 22 v1 rfl rfl)
 have k1 := h1
 have lt1 : ∀ x ∈ p1, x.block < W.heap.size := by obtain ⟨m, hm⟩ := k1; exact DataW.trod_lt m _ _ _ hm
 obtain ⟨z1, w1⟩ : ∃ zs, IsRow .i64 W a1 len1 cap1 zs := by
  obtain ⟨fuel, hf⟩ := h1
  rcases open_ints Try.underlying22 Try.underlying3 (by kernel_rfl) hf with ⟨hcs, _⟩ | ⟨x, l, c, zs, hcs, _, hl, hm, hz, _, hcell, hwz⟩
  ·simp [Value.cells] at hcs
   obtain ⟨rfl, rfl, rfl⟩ := hcs
   exact ⟨[], .inl ⟨rfl, rfl, rfl, rfl⟩⟩
  ·simp [Value.cells] at hcs
   obtain ⟨rfl, rfl, rfl⟩ := hcs
   exact ⟨zs, .inr ⟨_, rfl, hl, hm, by simpa using hz, hcell, hwz⟩⟩
 have y1 : len1 * 8 ≤ 140737488351232 := Go.Proofs.YtodbnnfiadcbaaaW.PrintWords.sized_ints hsz (j := 1) (t := 22) rfl rfl Try.underlying22 Try.underlying3 (by kernel_rfl) (by kernel_rfl) h1
 clear hA0 hval0 hsz0 hsz
 refine (P.canopylaw5_ExprBack.walk Pure.ExprBack a0 a1 len1 cap1 z1 W w0 w1 y1).mono fun e W' ⟨he, bel⟩ => ?_
 subst he
 exact ⟨_, rfl, _, _, _, [], _, [], hW', trodAll_mk1 (shut_bool Try.underlying4 _), (trodAll_cons_mk (shut_int Try.underlying3 w0) (trodAll_cons_mk (Below.trod laidOut (by kernel_rfl) (of_decide_eq_true (by kernel_rfl)) k1 bel lt1) trodAll_mk0)), rfl, bel.frame _, fun h => by cases h⟩
theorem over : Rows.exprBackRow.holds Try.pinned (OpenSpec.ofChange Rows.exprBackSpec) :=
 OpenClaim.holds_of_wide 3 Try.f3 rfl rfl rfl rfl rfl rfl rfl ⟨rfl, rfl, rfl, rfl, rfl⟩ rfl rfl rfl rfl rfl (by kernel_rfl) Try.func3 (by kernel_rfl)
  (of_decide_eq_true (by kernel_rfl)) (by unfold Func.isWrapper; first | (rw [if_pos (by decide +kernel)]; kernel_rfl) | (rw [if_neg (by decide +kernel)]; exact ⟨rfl, rfl⟩))
  (fun os started H enc _ => lifted os started H enc)
theorem proved : Rows.ExprBackSaid := over
#print axioms proved
end Go.Proofs.Ytodbnnfiadcbaaa.exprBack
namespace Go.Proofs.Ytodbnnfiadcbaaa
theorem exprBack_holds : Rows.ExprBackSaid := exprBack.proved
end Go.Proofs.Ytodbnnfiadcbaaa
