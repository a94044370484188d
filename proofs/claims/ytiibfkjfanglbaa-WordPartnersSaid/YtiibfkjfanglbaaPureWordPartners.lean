/- WordPartners holds: partners are partners of one another, the one opens, the other closes; between them all have theirs there, and none cross; no condition beside the row's own. -/
import Derived.Test.YtiibfkjfanglbaaPx35
import Derived.Test.YtiibfkjfanglbaaWordRow
import Derived.Test.YtiibfkjfanglbaaWordKnownTrue
namespace Go.Proofs.Ytiibfkjfanglbaa.Pure
open Go.RowKit Go.Proofs.Ytiibfkjfanglbaa.P Go.Proofs.YtiibfkjfanglbaaW.PrintWords Go.Proofs.YtiibfkjfanglbaaW.PrintLast Go.Proofs.YtiibfkjfanglbaaW.PrintMore Go.Proofs.YtiibfkjfanglbaaL
theorem mn_min (a b : Int) : mn a b = min a b := by unfold mn; omega
/-- The places between two partners. -/
theorem partners_l1 (l : List S40) (w m : List Int) (hf : Fit l w) (hn : w.length ≤ 1000) (hl : m.length = w.length) (K M : Nat → Int) (hK : ∀ x, x < w.length → kd l (rd w (x : Int)) = K x) (hM : ∀ x, x < w.length → rd m (x : Int) = M x)
    (i a b : Nat) (hb : b < w.length) (hin : ∀ x, a < x → x < b → (M x = -1 → K x = 3) ∧ (M x ≠ -1 → (a : Int) < M x ∧ M x < (b : Int)))
    (next : Ev (fun k => canopylaw1_WordPartners.l0 k l w m (wrap64 ((i : Int) + 1))) true) : ∀ (d x : Nat), x + d = b → a < x →
    Ev (fun k => canopylaw1_WordPartners.l1 k l w m (i : Int) (a : Int) (b : Int) (x : Int)) true := by
  intro d
  induction d with
  | zero =>
    intro x hx hax
    refine Ev.step (fun k => rfl) ?_
    simp only [canopylaw1_WordPartners.l1, if_neg (show ¬ ((x : Int) < (b : Int)) by omega)]
    exact next
  | succ d ih =>
    intro x hx hax
    have hxw : x < w.length := by omega
    have hfx := hf _ (List.getElem_mem hxw)
    rw [← rd_get hxw] at hfx
    have hfx2 := hfx.2
    have hk := hK x hxw
    unfold kd at hk
    have g := ih (x + 1) (by omega) (by omega)
    rw [← wrap_succ x (by omega)] at g
    obtain ⟨g1, g2⟩ := hin x hax (by omega)
    refine Ev.step (fun k => rfl) ?_
    simp only [canopylaw1_WordPartners.l1, if_pos (show ((x : Int) < (b : Int)) by omega), if_pos (show (0 : Int) ≤ (x : Int) by omega), if_pos (show ((x : Int) < (m.length : Int)) by omega), hM x hxw]
    by_cases h : M x = -1
    · simp only [if_pos h, if_pos (show ((x : Int) < (w.length : Int)) by omega), if_pos hfx.1, if_pos hfx2, hk, if_pos (g1 h)]
      exact g
    · have h3 := g2 h
      simp only [if_neg h, if_neg (show ¬ (M x < (a : Int)) by omega), if_neg (show ¬ (M x > (b : Int)) by omega)]
      exact g
theorem partners_l0 (l : List S40) (w m : List Int) (hf : Fit l w) (hn : w.length ≤ 1000) (hl : m.length = w.length) (K M : Nat → Int) (st : List Nat) (hK : ∀ x, x < w.length → kd l (rd w (x : Int)) = K x) (hM : ∀ x, x < w.length → rd m (x : Int) = M x)
    (hR : Row K w.length M st) : ∀ (d i : Nat), i + d = w.length → Ev (fun k => canopylaw1_WordPartners.l0 k l w m (i : Int)) true := by
  have hfit : ∀ x, x < w.length → 0 ≤ rd w (x : Int) ∧ rd w (x : Int) < (l.length : Int) := fun x hx => by
    have := hf _ (List.getElem_mem hx)
    rw [← rd_get hx] at this
    exact this
  intro d
  induction d with
  | zero =>
    intro i hi
    refine Ev.step (fun k => rfl) ?_
    simp only [canopylaw1_WordPartners.l0, if_neg (show ¬ ((i : Int) < (m.length : Int)) by omega)]
    exact ev_all fun _ => rfl
  | succ d ih =>
    intro i hi
    have hiw : i < w.length := by omega
    have next := ih (i + 1) (by omega)
    rw [← wrap_succ i (by omega)] at next
    refine Ev.step (fun k => rfl) ?_
    simp only [canopylaw1_WordPartners.l0, if_pos (show ((i : Int) < (m.length : Int)) by omega), if_pos (show (0 : Int) ≤ (i : Int) by omega), hM i hiw]
    by_cases h : M i = -1
    · simp only [if_pos h]
      exact next
    · obtain ⟨q, hq, hqn, hqi, hor⟩ := hR.f2 i hiw h
      have hne : q ≠ i := by rcases hor with ⟨h1, _⟩ | ⟨h1, _⟩ <;> omega
      have e1 : rd m (q : Int) = (i : Int) := by rw [hM q hqn, hqi]
      simp only [hq, if_neg (show ¬ ((q : Int) = -1) by omega), if_neg (show ¬ ((q : Int) < 0) by omega), if_neg (show ¬ ((q : Int) ≥ (m.length : Int)) by omega), if_pos (show (0 : Int) ≤ (q : Int) by omega), if_pos (show ((q : Int) < (m.length : Int)) by omega), e1, if_true, show ((q : Int) == (i : Int)) = false from beq_eq_false_iff_ne.2 (by omega)]
      refine Ev.step (fun k => rfl) ?_
      have main : ∀ a b : Nat, a < b → b < w.length → min (i : Int) (q : Int) = (a : Int) → max (i : Int) (q : Int) = (b : Int) → K a = 1 → K b = 2 → M a = (b : Int) → Ev (fun k => canopylaw1_WordPartners.j1 (k + 1) l w m (i : Int) false) true := by
        intro a b hab hb emin emax ka kb mab
        have fa := hfit a (by omega)
        have fb := hfit b hb
        have ka' := hK a (by omega)
        have kb' := hK b hb
        unfold kd at ka' kb'
        simp only [canopylaw1_WordPartners.j1, Bool.false_eq_true, if_false, if_pos (show (0 : Int) ≤ (i : Int) by omega), if_pos (show ((i : Int) < (m.length : Int)) by omega), hM i hiw, hq, mn_min, mx_max, emin, emax, if_pos (show (0 : Int) ≤ (a : Int) by omega), if_pos (show ((a : Int) < (w.length : Int)) by omega), if_pos fa.1, if_pos fa.2, ka', if_pos ka, if_pos (show (0 : Int) ≤ (b : Int) by omega), if_pos (show ((b : Int) < (w.length : Int)) by omega), if_pos fb.1, if_pos fb.2, kb', kb, show ((2 : Int) != 2) = false from rfl]
        refine Ev.step (fun k => rfl) ?_
        simp only [canopylaw1_WordPartners.j2, Bool.false_eq_true, if_false, wrap_succ a (by omega)]
        exact partners_l1 l w m hf hn hl K M hK hM i a b hb (hR.f3 a b (by omega) mab hab) next (b - (a + 1)) (a + 1) (by omega) (by omega)
      rcases hor with ⟨h1, k1, k2⟩ | ⟨h1, k1, k2⟩
      · exact main i q h1 hqn (by omega) (by omega) k1 k2 hq
      · exact main q i h1 hiw (by omega) (by omega) k1 k2 hqi
theorem WordPartners : canopylaw1_WordPartners.Pure := by
  intro n ns _ _ _ _
  obtain ⟨l, hl, hg⟩ := syms_good n ns
  have hlen := good_len hg
  have hf := wordOf_fit l hlen.1 ns 40
  have hw := wordOf_len l ns 40
  refine Ev.rounds (r := true) ?_
  unfold canopylaw1_WordPartners.f
  refine Ev.bind known_ev ?_
  simp only [if_true, hl, Option.bind_some]
  refine Ev.bind (word_ev l hlen.1 (by omega) ns 40 (by omega)) ?_
  refine Ev.bind (pmatch_ev l _ hf (by omega)) ?_
  generalize wordOf l ns 40 = w at *
  have hml : (mrow (kds l w) [] []).length = w.length := by rw [mrow_len, kds_len]; simp
  simp only [if_pos (show ((mrow (kds l w) [] []).length : Int) = (w.length : Int) by omega)]
  obtain ⟨M, st, hM, hR⟩ := mrow_all (kds l w) (kds_kinds hg hf)
  rw [kds_len] at hM hR
  exact partners_l0 l w _ hf (by omega) hml _ M st (fun x hx => by
    rw [rd_get hx]
    simp [kds, List.getD_eq_getElem?_getD, hx]) (fun x hx => by rw [rd_nat]; exact hM x hx) hR w.length 0 (by omega)
end Go.Proofs.Ytiibfkjfanglbaa.Pure
