/- WordOwn holds: symbols, a word are not changed; what was told may be; no condition beside the row's own. -/
import Derived.Test.YtiibfkjfanglbaaPx40
import Derived.Test.YtiibfkjfanglbaaWordText
import Derived.Test.YtiibfkjfanglbaaWordMatch
import Derived.Test.YtiibfkjfanglbaaWordKnownTrue
namespace Go.Proofs.Ytiibfkjfanglbaa.Pure
open Go.RowKit Go.Proofs.Ytiibfkjfanglbaa.P Go.Proofs.YtiibfkjfanglbaaW.PrintWords Go.Proofs.YtiibfkjfanglbaaW.PrintLast Go.Proofs.YtiibfkjfanglbaaW.PrintMore Go.Proofs.YtiibfkjfanglbaaL
theorem own_l2 (l : List S40) (hg : goodB l = true) (w : List Int) (s : ByteArray) (hf : Fit l w) (hw : w.length ≤ 20) (hp : Ev (fun k => word_Parse.f k l s) (w, 0, 0)) : ∀ (d i : Nat), i + d = l.length → Ev (fun k => canopylaw1_WordOwn.l2 k l l w w s (i : Int)) true := by
  have hlen := good_len hg
  intro d
  induction d with
  | zero =>
    intro i hi
    refine Ev.step (fun k => rfl) ?_
    simp only [canopylaw1_WordOwn.l2, if_neg (show ¬ ((i : Int) < (l.length : Int)) by omega)]
    refine Ev.bind hp ?_
    refine Ev.bind (ints_ev w w (by omega)) ?_
    simp only [decide_true, if_true]
    refine Ev.bind (ints_ev w w (by omega)) ?_
    simp only [decide_true, if_true]
    refine Ev.bind (pmatch_ev l w hf (by omega)) ?_
    refine Ev.bind (rmatch_ev l w hf (by omega)) ?_
    refine Ev.bind (ints_ev _ _ (by rw [mrow_len, kds_len]; simp; omega)) ?_
    simp only [decide_true]
    exact ev_all fun _ => rfl
  | succ d ih =>
    intro i hi
    have next := ih (i + 1) (by omega)
    rw [← wrap_succ i (by omega)] at next
    refine Ev.step (fun k => rfl) ?_
    simp only [canopylaw1_WordOwn.l2, if_pos (show ((i : Int) < (l.length : Int)) by omega), if_pos (show (0 : Int) ≤ (i : Int) by omega), beq_self_eq_true, Bool.not_true, Bool.or_false, Bool.false_eq_true, if_false]
    exact next
theorem own_l1 (l : List S40) (hg : goodB l = true) (w : List Int) (s : ByteArray) (hf : Fit l w) (hw : w.length ≤ 20) (hp : Ev (fun k => word_Parse.f k l s) (w, 0, 0)) : ∀ (d i : Nat) (x : List Int), i + d = x.length → x.length ≤ 100000 → Ev (fun k => canopylaw1_WordOwn.l1 k l l w w s x (i : Int)) true := by
  intro d
  induction d with
  | zero =>
    intro i x hi hx
    refine Ev.step (fun k => rfl) ?_
    simp only [canopylaw1_WordOwn.l1, if_neg (show ¬ ((i : Int) < (x.length : Int)) by omega)]
    exact own_l2 l hg w s hf hw hp l.length 0 (by omega)
  | succ d ih =>
    intro i x hi hx
    have next := ih (i + 1) (x.set i (-9)) (by rw [List.length_set]; omega) (by rw [List.length_set]; exact hx)
    rw [← wrap_succ i (by omega)] at next
    refine Ev.step (fun k => rfl) ?_
    simp only [canopylaw1_WordOwn.l1, if_pos (show ((i : Int) < (x.length : Int)) by omega), if_pos (show (0 : Int) ≤ (i : Int) by omega), Int.toNat_natCast]
    exact next
theorem own_l0 (l : List S40) (hg : goodB l = true) (w : List Int) (s : ByteArray) (hf : Fit l w) (hw : w.length ≤ 20) (hp : Ev (fun k => word_Parse.f k l s) (w, 0, 0)) : ∀ (d i : Nat) (x : List Int), i + d = x.length → x.length ≤ 100000 → Ev (fun k => canopylaw1_WordOwn.l0 k l l w w s x (i : Int)) true := by
  intro d
  induction d with
  | zero =>
    intro i x hi hx
    refine Ev.step (fun k => rfl) ?_
    simp only [canopylaw1_WordOwn.l0, if_neg (show ¬ ((i : Int) < (x.length : Int)) by omega)]
    refine Ev.bind (pmatch_ev l w hf (by omega)) ?_
    have hl : (mrow (kds l w) [] []).length = w.length := by rw [mrow_len, kds_len]; simp
    exact own_l1 l hg w s hf hw hp _ 0 _ (Nat.zero_add _) (by omega)
  | succ d ih =>
    intro i x hi hx
    have next := ih (i + 1) (x.set i (-9)) (by rw [List.length_set]; omega) (by rw [List.length_set]; exact hx)
    rw [← wrap_succ i (by omega)] at next
    refine Ev.step (fun k => rfl) ?_
    simp only [canopylaw1_WordOwn.l0, if_pos (show ((i : Int) < (x.length : Int)) by omega), if_pos (show (0 : Int) ≤ (i : Int) by omega), Int.toNat_natCast]
    exact next
theorem WordOwn : canopylaw1_WordOwn.Pure := by
  intro n ns _ _ _ _
  obtain ⟨l, hl, hg⟩ := syms_good n ns
  have hlen := good_len hg
  have hf := wordOf_fit l hlen.1 ns 20
  have hw := wordOf_len l ns 20
  refine Ev.rounds (r := true) ?_
  unfold canopylaw1_WordOwn.f
  refine Ev.bind known_ev ?_
  simp only [if_true, hl, Option.bind_some, List.length_nil, List.nil_append, if_pos (show 0 + l.length < 5864062014805 by omega)]
  refine Ev.bind (word_ev l hlen.1 (by omega) ns 20 (by omega)) ?_
  refine Ev.bind (word_ev l hlen.1 (by omega) ns 20 (by omega)) ?_
  generalize wordOf l ns 20 = w at *
  refine Ev.bind (ptext_ev l hg w hf (by omega)) ?_
  have hp := pparse_ev l (by omega) (B (textL l w))
  rw [parse_spaced hg (spaced_text w hf) (by have := textL_len hg hf; omega)] at hp
  refine Ev.bind hp ?_
  exact own_l0 l hg w _ hf hw hp w.length 0 w (by omega) (by omega)
end Go.Proofs.Ytiibfkjfanglbaa.Pure
