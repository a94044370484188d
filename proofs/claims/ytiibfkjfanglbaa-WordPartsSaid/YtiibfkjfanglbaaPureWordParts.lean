/- WordParts holds: a word's text, parted at a blank, is two words' texts; a whole word between changes nothing of the others' partners; no condition beside the row's own. -/
import Derived.Test.YtiibfkjfanglbaaPx38
import Derived.Test.YtiibfkjfanglbaaWordText
import Derived.Test.YtiibfkjfanglbaaWordInsert
import Derived.Test.YtiibfkjfanglbaaWordKnownTrue
namespace Go.Proofs.Ytiibfkjfanglbaa.Pure
open Go.RowKit Go.Proofs.Ytiibfkjfanglbaa.P Go.Proofs.YtiibfkjfanglbaaW.PrintWords Go.Proofs.YtiibfkjfanglbaaW.PrintLast Go.Proofs.YtiibfkjfanglbaaW.PrintMore Go.Proofs.YtiibfkjfanglbaaL
theorem textL_app (l : List S40) (v w : List Int) (hv : 0 < v.length) (hw : 0 < w.length) : textL l (v ++ w) = (textL l v ++ [32]) ++ textL l w := by
  cases v with
  | nil => simp at hv
  | cons x v =>
    cases w with
    | nil => simp at hw
    | cons y w =>
      unfold textL
      rw [List.cons_append, List.map_cons, List.map_append, List.map_cons, List.map_cons, Lib.join_cons, Lib.join_cons, Lib.join_cons]
      simp [Lib.joinTail]
theorem rd_some {xs : List Int} {i : Nat} {m : Int} (h : xs[i]? = some m) : rd xs (i : Int) = m ∧ i < xs.length := by
  obtain ⟨hi, he⟩ := List.getElem?_eq_some_iff.1 h
  exact ⟨by rw [rd_get hi, he], hi⟩
theorem parts_l0 (v w M X : List Int) (a : Nat) (hv : v.length ≤ 100) (hw : w.length ≤ 100) (hM : M.length = v.length) (hR : Rel a w.length M X) (hb : ∀ m ∈ M, m < (M.length : Int)) : ∀ (d i : Nat), i + d = v.length →
    Ev (fun k => canopylaw1_WordParts.l0 k v w (a : Int) M X (i : Int)) true := by
  intro d
  induction d with
  | zero =>
    intro i hi
    refine Ev.step (fun k => rfl) ?_
    simp only [canopylaw1_WordParts.l0, if_neg (show ¬ ((i : Int) < (v.length : Int)) by omega)]
    exact ev_all fun _ => rfl
  | succ d ih =>
    intro i hi
    have hiM : i < M.length := by omega
    have next := ih (i + 1) (by omega)
    rw [← wrap_succ i (by omega)] at next
    have hx := hR.2 i hiM
    rw [List.getElem?_eq_getElem hiM, Option.map_some] at hx
    obtain ⟨hx1, hx2⟩ := rd_some hx
    have hm := hb _ (List.getElem_mem hiM)
    have e1 : rd M (i : Int) = M[i] := rd_get hiM
    generalize M[i] = m at *
    have j3 : ∀ q : Int, q = ((fx a w.length i : Nat) : Int) → Ev (fun k => canopylaw1_WordParts.j3 k v w (a : Int) M X (i : Int) q m) true := by
      intro q hq
      subst hq
      refine Ev.step (fun k => rfl) ?_
      simp only [canopylaw1_WordParts.j3, if_pos (show (0 : Int) ≤ ((fx a w.length i : Nat) : Int) by omega), if_pos (show ((fx a w.length i : Nat) : Int) < (X.length : Int) by omega), hx1]
      by_cases h : m < (a : Int)
      · have e : gx a w.length m = m := by unfold gx; rw [if_pos h]
        simp only [if_neg (show ¬ (m ≥ (a : Int)) by omega), e, if_true]
        exact next
      · have e : gx a w.length m = wrap64 (m + (w.length : Int)) := by unfold gx wrap64; rw [if_neg h]; omega
        simp only [if_pos (show m ≥ (a : Int) by omega), e, if_true]
        exact next
    refine Ev.step (fun k => rfl) ?_
    simp only [canopylaw1_WordParts.l0, if_pos (show ((i : Int) < (v.length : Int)) by omega), if_pos (show (0 : Int) ≤ (i : Int) by omega), if_pos (show ((i : Int) < (M.length : Int)) by omega), e1]
    by_cases h : i < a
    · simp only [if_neg (show ¬ ((i : Int) ≥ (a : Int)) by omega)]
      exact j3 _ (by unfold fx; rw [if_pos h])
    · simp only [if_pos (show ((i : Int) ≥ (a : Int)) by omega)]
      exact j3 _ (by unfold fx wrap64; rw [if_neg h]; omega)
theorem parts_j0 (l : List S40) (hg : goodB l = true) (v w : List Int) (a : Nat) (hfv : Fit l v) (hfw : Fit l w) (hv : v.length ≤ 100) (hw : w.length ≤ 100) (ha : a ≤ v.length) : Ev (fun k => canopylaw1_WordParts.j0 k l v w (a : Int) false) true := by
  refine Ev.step (fun k => rfl) ?_
  simp only [canopylaw1_WordParts.j0, Bool.false_eq_true, if_false]
  refine Ev.bind (pwhole_ev l hg w hfw (by omega)) ?_
  by_cases hz : wholeB l w = true
  · simp only [if_pos hz]
    refine Ev.bind (pmatch_ev l v hfv (by omega)) ?_
    have hta : (v.take a).length = a := by rw [List.length_take]; omega
    have hda : (v.drop a).length = v.length - a := by rw [List.length_drop]
    have hfx : Fit l (v.take a ++ w ++ v.drop a) := by
      intro x hx
      rcases List.mem_append.1 hx with hx | hx
      · rcases List.mem_append.1 hx with hx | hx
        · exact hfv x (List.mem_of_mem_take hx)
        · exact hfw x hx
      · exact hfv x (List.mem_of_mem_drop hx)
    simp only [Option.bind_some, List.length_nil, List.nil_append, if_pos (show (0 : Int) ≤ (a : Int) by omega), if_pos (show (a : Int) ≤ (v.length : Int) by omega), Int.toNat_natCast, List.length_append, hta, hda, if_pos (show 0 + a < 17592186044416 by omega), if_pos (show 0 + a + w.length < 17592186044416 by omega), if_pos (show 0 + a + w.length + (v.length - a) < 17592186044416 by omega)]
    refine Ev.bind (pmatch_ev l _ hfx (by simp; omega)) ?_
    have hr := mrow_insert (kds l (v.take a)) (kds l w) (kds l (v.drop a)) hz
    have ek : kds l (v.take a) ++ kds l (v.drop a) = kds l v := by unfold kds; rw [← List.map_append, List.take_append_drop]
    have ek2 : kds l (v.take a) ++ kds l w ++ kds l (v.drop a) = kds l (v.take a ++ w ++ v.drop a) := by unfold kds; rw [List.map_append, List.map_append]
    rw [ek, ek2, kds_len, kds_len, hta] at hr
    have hlm : (mrow (kds l v) [] []).length = v.length := by rw [mrow_len, kds_len]; simp
    have hb : ∀ m ∈ mrow (kds l v) [] [], m < ((mrow (kds l v) [] []).length : Int) := by
      obtain ⟨p, s, e, _, ew⟩ := mrow_front (kds l v) [] [] ⟨by simp, by simp⟩
      have := e []
      rw [List.append_nil] at this
      rw [this]
      exact ew.2
    generalize mrow (kds l v) [] [] = M at *
    generalize mrow (kds l (v.take a ++ w ++ v.drop a)) [] [] = X at *
    have hlx : (X.length : Int) = wrap64 ((v.length : Int) + (w.length : Int)) := by rw [hr.1, hlm, wrap_id (by omega) (by omega)]; omega
    have e0 : ((X.length : Int) != wrap64 ((v.length : Int) + (w.length : Int))) = false := by rw [hlx]; simp
    simp only [if_pos (show ((M.length : Int) = (v.length : Int)) by omega), e0]
    refine Ev.step (fun k => rfl) ?_
    simp only [canopylaw1_WordParts.j1, Bool.false_eq_true, if_false]
    exact parts_l0 v w M X a hv hw hlm hr hb v.length 0 (by omega)
  · simp only [if_neg hz]
    exact ev_all fun _ => rfl
theorem WordParts : canopylaw1_WordParts.Pure := by
  intro n ns ms cut _ _ _ _ _ _ _ _
  obtain ⟨l, hl, hg⟩ := syms_good n ns
  have hlen := good_len hg
  have hfv := wordOf_fit l hlen.1 ns 20
  have hfw := wordOf_fit l hlen.1 ms 20
  have hv := wordOf_len l ns 20
  have hw := wordOf_len l ms 20
  refine Ev.rounds (r := true) ?_
  unfold canopylaw1_WordParts.f
  refine Ev.bind known_ev ?_
  simp only [if_true, hl, Option.bind_some]
  refine Ev.bind (word_ev l hlen.1 (by omega) ns 20 (by omega)) ?_
  refine Ev.bind (word_ev l hlen.1 (by omega) ms 20 (by omega)) ?_
  generalize wordOf l ns 20 = v at *
  generalize wordOf l ms 20 = w at *
  have a0 := Int.emod_nonneg cut (show ((v.length + 1 : Nat) : Int) ≠ 0 by omega)
  have a1 := Int.emod_lt_of_pos cut (show (0 : Int) < ((v.length + 1 : Nat) : Int) by omega)
  simp only [wrap_succ v.length (by omega), within_eq cut _ (show (0 : Int) < ((v.length + 1 : Nat) : Int) by omega) (by omega), Option.bind_some]
  obtain ⟨a, ha⟩ := Int.eq_ofNat_of_zero_le a0
  rw [ha] at a1 ⊢
  have main := parts_j0 l hg v w a hfv hfw (by omega) (by omega) (by omega)
  by_cases hw0 : (w.length : Int) > 0
  · by_cases hv0 : (v.length : Int) > 0
    · have hfvw : Fit l (v ++ w) := by
        intro x hx
        rcases List.mem_append.1 hx with hx | hx
        · exact hfv x hx
        · exact hfw x hx
      have s1 : (B (textL l v)).size ≤ 240 := by rw [B_size]; have := textL_len hg hfv; omega
      have s2 : (B (textL l w)).size ≤ 240 := by rw [B_size]; have := textL_len hg hfw; omega
      have s3 : (⟨#[32]⟩ : ByteArray).size = 1 := rfl
      have s4 : L (⟨#[32]⟩ : ByteArray) = [32] := rfl
      simp only [if_pos hw0, if_pos hv0, List.length_nil, List.nil_append, if_pos (show 0 + v.length < 17592186044416 by omega), if_pos (show v.length + w.length < 17592186044416 by omega)]
      refine Ev.bind (ptext_ev l hg (v ++ w) hfvw (by simp; omega)) ?_
      refine Ev.bind (ptext_ev l hg v hfv (by omega)) ?_
      simp only [if_pos (show (B (textL l v)).size + 1 ≤ 9223372036854775807 by omega)]
      refine Ev.bind (ptext_ev l hg w hfw (by omega)) ?_
      simp only [if_pos (show (B (textL l v) ++ (⟨#[32]⟩ : ByteArray)).size + (B (textL l w)).size ≤ 9223372036854775807 by rw [ByteArray.size_append, s3]; omega)]
      have hflag : ((B (textL l (v ++ w))).toList != ((B (textL l v) ++ (⟨#[32]⟩ : ByteArray)) ++ B (textL l w)).toList) = false := by
        rw [toL, toL, L_append, L_append, L_B, L_B, L_B, s4, textL_app l v w (by omega) (by omega)]
        simp
      simp only [hflag]
      exact main
    · simp only [if_pos hw0, if_neg hv0]
      exact main
  · simp only [if_neg hw0]
    exact main
end Go.Proofs.Ytiibfkjfanglbaa.Pure
