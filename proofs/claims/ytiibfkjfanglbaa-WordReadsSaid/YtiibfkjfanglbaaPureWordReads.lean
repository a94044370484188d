/- WordReads holds: any text is read, or refused at its place, by the program as by the reference; no condition beside the row's own. -/
import Derived.Test.YtiibfkjfanglbaaPx28
import Derived.Test.YtiibfkjfanglbaaWordText
import Derived.Test.YtiibfkjfanglbaaWordKnownTrue
namespace Go.Proofs.Ytiibfkjfanglbaa.Pure
open Go.RowKit Go.Proofs.Ytiibfkjfanglbaa.P Go.Proofs.YtiibfkjfanglbaaW.PrintWords Go.Proofs.YtiibfkjfanglbaaW.PrintLast Go.Proofs.YtiibfkjfanglbaaW.PrintMore Go.Proofs.YtiibfkjfanglbaaL
theorem parseOf_small (l : List S40) (s : ByteArray) : (parseOf l s).1.length ≤ 2000 := by
  by_cases h : 2000 < s.size
  · unfold parseOf
    rw [if_pos h]
    simp
  · have := parseOf_len l s
    omega
theorem reads_l0 (l : List S40) (hl : l.length ≤ 1000) (rows : List ByteArray) (hr : rows.length ≤ 1000) : ∀ (d i : Nat), i + d = rows.length → Ev (fun k => canopylaw1_WordReads.l0 k l rows (i : Int)) true := by
  intro d
  induction d with
  | zero =>
    intro i hi
    refine Ev.step (fun k => rfl) ?_
    simp only [canopylaw1_WordReads.l0, if_neg (show ¬ ((i : Int) < (rows.length : Int)) by omega)]
    exact ev_all fun _ => rfl
  | succ d ih =>
    intro i hi
    refine Ev.step (fun k => rfl) ?_
    simp only [canopylaw1_WordReads.l0, if_pos (show ((i : Int) < (rows.length : Int)) by omega), if_pos (show (0 : Int) ≤ (i : Int) by omega)]
    generalize rdOf ByteArray.empty rows (i : Int) = s
    refine Ev.bind (pparse_ev l hl s) ?_
    refine Ev.bind (rparse_ev l hl s) ?_
    simp only [if_true]
    have hs := parseOf_small l s
    refine Ev.bind (ints_ev _ _ (by omega)) ?_
    simp only [decide_true, if_true, wrap_succ i (by omega)]
    exact ih (i + 1) (by omega)
theorem turned_some (s : ByteArray) (a b : Int) (hs : s.size ≤ 100000) : ∃ r, canopylaw1_turned.f s a b = some r := by
  unfold canopylaw1_turned.f
  by_cases h : s.toList = []
  · rw [if_pos h]
    exact ⟨_, rfl⟩
  · rw [if_neg h]
    have hp : 0 < s.size := by
      rw [toL] at h
      rw [← L_len]
      exact List.length_pos_iff.2 h
    rw [within_eq _ _ (by omega) (by omega), Option.bind_some]
    have a0 := Int.emod_nonneg a (show (s.size : Int) ≠ 0 by omega)
    have a1 := Int.emod_lt_of_pos a (show (0 : Int) < (s.size : Int) by omega)
    rw [if_pos a0, if_pos a1]
    exact ⟨_, rfl⟩
theorem reads_j0 (n : Int) (ns : List Int) (a b c : Int) (more raw : ByteArray) (hm : more.size ≤ 40) (hr : raw.size ≤ 200) : Ev (fun k => canopylaw1_WordReads.j0 k n ns a b c more raw false) true := by
  obtain ⟨l, hl, hg⟩ := syms_good n ns
  have hlen := good_len hg
  have hf := wordOf_fit l hlen.1 ns 12
  have hw := wordOf_len l ns 12
  refine Ev.step (fun k => rfl) ?_
  simp only [canopylaw1_WordReads.j0, Bool.false_eq_true, if_false, hl, Option.bind_some]
  refine Ev.bind (word_ev l hlen.1 (by omega) ns 12 (by omega)) ?_
  generalize wordOf l ns 12 = w at *
  refine Ev.bind (rtext_ev l hg w hf (by omega)) ?_
  have hsz : (B (textL l w)).size ≤ 144 := by rw [B_size]; have := textL_len hg hf; omega
  generalize B (textL l w) = s at *
  obtain ⟨r, hrt⟩ := turned_some s a b (by omega)
  have a0 := Int.emod_nonneg c (show ((s.size + 1 : Nat) : Int) ≠ 0 by omega)
  have a1 := Int.emod_lt_of_pos c (show (0 : Int) < ((s.size + 1 : Nat) : Int) by omega)
  simp only [wrap_succ s.size (by omega), within_eq c _ (show (0 : Int) < ((s.size + 1 : Nat) : Int) by omega) (by omega), hrt, Option.bind_some]
  generalize c % ((s.size + 1 : Nat) : Int) = q at *
  have e1 : (s.extract 0 q.toNat).size ≤ 144 := by rw [ByteArray.size_extract]; omega
  have e2 : (s.extract q.toNat s.size).size ≤ 144 := by rw [ByteArray.size_extract]; omega
  have l1 : ((⟨#[32]⟩ : ByteArray)).size = 1 := rfl
  have l2 : ((⟨#[60]⟩ : ByteArray)).size = 1 := rfl
  simp only [if_pos a0, if_pos (show q ≤ (s.size : Int) by omega), ByteArray.size_append, l1, l2, if_pos (show (s.extract 0 q.toNat).size + more.size ≤ 9223372036854775807 by omega), if_pos (show (s.extract 0 q.toNat).size + more.size + (s.extract q.toNat s.size).size ≤ 9223372036854775807 by omega), if_pos (show s.size + 1 ≤ 9223372036854775807 by omega), if_pos (show s.size + 1 + raw.size ≤ 9223372036854775807 by omega), if_pos (show 1 + raw.size ≤ 9223372036854775807 by omega), if_pos (show 1 + raw.size + 1 ≤ 9223372036854775807 by omega), if_pos (show 2 + raw.size ≤ 9223372036854775807 by omega)]
  exact reads_l0 l (by omega) _ (by simp) _ 0 (Nat.zero_add _)
theorem WordReads : canopylaw1_WordReads.Pure := by
  intro n ns a b c more raw _ _ _ _ _ _ _ _ _
  refine Ev.rounds (r := true) ?_
  unfold canopylaw1_WordReads.f
  refine Ev.bind known_ev ?_
  simp only [if_true]
  have skip : Ev (fun k => canopylaw1_WordReads.j0 k n ns a b c more raw true) true := by
    refine Ev.step (fun k => rfl) ?_
    simp only [canopylaw1_WordReads.j0, if_true]
    exact ev_all fun _ => rfl
  by_cases h1 : (more.size : Int) > 40
  · simp only [if_pos h1]
    exact skip
  · simp only [if_neg h1]
    by_cases h2 : (raw.size : Int) > 200
    · simp only [h2, decide_true]
      exact skip
    · simp only [h2, decide_false]
      exact reads_j0 n ns a b c more raw (by omega) (by omega)
end Go.Proofs.Ytiibfkjfanglbaa.Pure
