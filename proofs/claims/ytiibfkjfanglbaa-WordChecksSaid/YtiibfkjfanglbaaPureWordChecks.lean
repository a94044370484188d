/- WordChecks holds: whether any symbols may be is told by the program as by the reference; no condition beside the row's own. -/
import Derived.Test.YtiibfkjfanglbaaPx30
import Derived.Test.YtiibfkjfanglbaaWordParse
import Derived.Test.YtiibfkjfanglbaaWordKnownTrue
namespace Go.Proofs.Ytiibfkjfanglbaa.Pure
open Go.RowKit Go.Proofs.Ytiibfkjfanglbaa.P Go.Proofs.YtiibfkjfanglbaaW.PrintWords Go.Proofs.YtiibfkjfanglbaaW.PrintLast Go.Proofs.YtiibfkjfanglbaaW.PrintMore Go.Proofs.YtiibfkjfanglbaaL
def Short (l : List S40) : Prop := l.length ≤ 1000 ∧ ∀ x ∈ l, x.f0.size ≤ 1000
/-- Both come to r. -/
def Both (f g : Nat → Option Int) : Prop := ∃ r, Ev f r ∧ Ev g r
theorem check_in (l : List S40) (i : Nat) (hi : i < l.length) (hn : l.length ≤ 1000) (next : Both (fun k => word_Check.l0 k l l (l.length : Int) (wrap64 ((i : Int) + 1))) (fun k => canopyref1_Check.l0 k l (wrap64 ((i : Int) + 1)))) :
    ∀ (e j : Nat), j + e = i → Both (fun k => word_Check.l1 k l l (l.length : Int) (i : Int) (l.take i) ((l.take i).length : Int) (j : Int) l[i].f0 l[i].f1) (fun k => canopyref1_Check.l1 k l (i : Int) (j : Int)) := by
  have hti : (l.take i).length = i := by rw [List.length_take]; omega
  intro e
  induction e with
  | zero =>
    intro j hj
    obtain ⟨r, h1, h2⟩ := next
    refine ⟨r, Ev.step (fun k => rfl) ?_, Ev.step (fun k => rfl) ?_⟩
    · simp only [word_Check.l1, hti, if_neg (show ¬ ((j : Int) < (i : Int)) by omega)]
      exact h1
    · simp only [canopyref1_Check.l1, if_neg (show ¬ ((j : Int) < (i : Int)) by omega)]
      exact h2
  | succ e ih =>
    intro j hj
    have hjt : j < (l.take i).length := by omega
    have hjl : j < l.length := by omega
    have ej : (l.take i)[j]'hjt = l[j] := List.getElem_take
    by_cases h : L l[j].f0 = L l[i].f0 ∧ l[j].f1 = l[i].f1
    · refine ⟨5, Ev.step (fun k => rfl) ?_, Ev.step (fun k => rfl) ?_⟩
      · have hb : (L l[i].f0 == L l[j].f0 && l[i].f1 == l[j].f1) = true := by simp [h.1, h.2]
        simp only [word_Check.l1, hti, if_pos (show ((j : Int) < (i : Int)) by omega), if_pos (show (0 : Int) ≤ (j : Int) by omega), rdT_get hjt, ej, toL, if_pos hb]
        exact ev_all fun _ => rfl
      · have hb : (L l[j].f0 == L l[i].f0 && l[j].f1 == l[i].f1) = true := by simp [h.1, h.2]
        simp only [canopyref1_Check.l1, if_pos (show ((j : Int) < (i : Int)) by omega), if_pos (show (0 : Int) ≤ (j : Int) by omega), if_pos (show ((j : Int) < (l.length : Int)) by omega), if_pos (show (0 : Int) ≤ (i : Int) by omega), if_pos (show ((i : Int) < (l.length : Int)) by omega), rdT_get hjl, rdT_get hi, toL, if_pos hb]
        exact ev_all fun _ => rfl
    · obtain ⟨r, h1, h2⟩ := ih (j + 1) (by omega)
      refine ⟨r, Ev.step (fun k => rfl) ?_, Ev.step (fun k => rfl) ?_⟩
      · have hb : ¬ (L l[i].f0 == L l[j].f0 && l[i].f1 == l[j].f1) = true := fun e => h (by
          simp only [Bool.and_eq_true, beq_iff_eq] at e
          exact ⟨e.1.symm, e.2.symm⟩)
        rw [hti] at h1
        simp only [word_Check.l1, hti, if_pos (show ((j : Int) < (i : Int)) by omega), if_pos (show (0 : Int) ≤ (j : Int) by omega), rdT_get hjt, ej, toL, if_neg hb, wrap_succ j (by omega)]
        exact h1
      · have hb : ¬ (L l[j].f0 == L l[i].f0 && l[j].f1 == l[i].f1) = true := fun e => h (by
          simp only [Bool.and_eq_true, beq_iff_eq] at e
          exact ⟨e.1, e.2⟩)
        simp only [canopyref1_Check.l1, if_pos (show ((j : Int) < (i : Int)) by omega), if_pos (show (0 : Int) ≤ (j : Int) by omega), if_pos (show ((j : Int) < (l.length : Int)) by omega), if_pos (show (0 : Int) ≤ (i : Int) by omega), if_pos (show ((i : Int) < (l.length : Int)) by omega), rdT_get hjl, rdT_get hi, toL, if_neg hb, wrap_succ j (by omega)]
        exact h2
theorem check_l0 (l : List S40) (hs : Short l) : ∀ (d i : Nat), i + d = l.length → Both (fun k => word_Check.l0 k l l (l.length : Int) (i : Int)) (fun k => canopyref1_Check.l0 k l (i : Int)) := by
  intro d
  induction d with
  | zero =>
    intro i hi
    refine ⟨0, Ev.step (fun k => rfl) ?_, Ev.step (fun k => rfl) ?_⟩
    · simp only [word_Check.l0, if_neg (show ¬ ((i : Int) < (l.length : Int)) by omega)]
      exact ev_all fun _ => rfl
    · simp only [canopyref1_Check.l0, if_neg (show ¬ ((i : Int) < (l.length : Int)) by omega)]
      exact ev_all fun _ => rfl
  | succ d ih =>
    intro i hi
    have hlt : i < l.length := by omega
    have hsz := hs.2 _ (List.getElem_mem hlt)
    have hn := hs.1
    have e1 := named_ev l[i].f0 (by omega)
    have e2 := letters_ev l[i].f0 (by omega)
    have fin : ∀ r, Ev (fun k => (word_named.f k l[i].f0).bind fun t => if t = true then (if l[i].f1 < 1 then (word_Check.j2 k l (i : Int) l (l.length : Int) (i : Int) true l[i].f0 l[i].f1) else (word_Check.j2 k l (i : Int) l (l.length : Int) (i : Int) (decide (l[i].f1 > 3)) l[i].f0 l[i].f1)) else (some 4)) r →
        Ev (fun k => (canopyref1_Letters.f k l[i].f0).bind fun t => if t = true then (if l[i].f1 < 1 then (some 7) else (if l[i].f1 > 3 then (some 7) else (canopyref1_Check.l1 k l (i : Int) 0))) else (some 4)) r →
        Both (fun k => word_Check.l0 k l l (l.length : Int) (i : Int)) (fun k => canopyref1_Check.l0 k l (i : Int)) := by
      intro r h1 h2
      refine ⟨r, Ev.step (fun k => rfl) ?_, Ev.step (fun k => rfl) ?_⟩
      · simp only [word_Check.l0, if_pos (show ((i : Int) < (l.length : Int)) by omega), if_pos (show (0 : Int) ≤ (i : Int) by omega), rdT_get hlt]
        exact h1
      · simp only [canopyref1_Check.l0, if_pos (show ((i : Int) < (l.length : Int)) by omega), if_pos (show (0 : Int) ≤ (i : Int) by omega), rdT_get hlt]
        exact h2
    have bad : ∀ b, Ev (fun k => word_Check.j2 k l (i : Int) l (l.length : Int) (i : Int) true l[i].f0 b) 7 := fun b => Ev.step (fun k => rfl) (by
      simp only [word_Check.j2, if_true]
      exact ev_all fun _ => rfl)
    by_cases hnm : nameL (L l[i].f0) = true
    · rw [hnm] at e1 e2
      by_cases k1 : l[i].f1 < 1
      · exact fin 7 (Ev.bind e1 (by simp only [if_true, if_pos k1]; exact bad _)) (Ev.bind e2 (by simp only [if_true, if_pos k1]; exact ev_all fun _ => rfl))
      · by_cases k3 : l[i].f1 > 3
        · exact fin 7 (Ev.bind e1 (by simp only [if_true, if_neg k1, k3, decide_true]; exact bad _)) (Ev.bind e2 (by simp only [if_true, if_neg k1, if_pos k3]; exact ev_all fun _ => rfl))
        · obtain ⟨r, h1, h2⟩ := check_in l i hlt hn (by rw [wrap_succ i (by omega)]; exact ih (i + 1) (by omega)) i 0 (by omega)
          refine fin r (Ev.bind e1 ?_) (Ev.bind e2 ?_)
          · simp only [if_true, if_neg k1, k3, decide_false]
            refine Ev.step (fun k => rfl) ?_
            simp only [word_Check.j2, Bool.false_eq_true, if_false, if_pos (show (0 : Int) ≤ (i : Int) by omega), if_pos (show (i : Int) ≤ (l.length : Int) by omega), Int.toNat_natCast, Option.bind_some]
            exact h1
          · simp only [if_true, if_neg k1, if_neg k3]
            exact h2
    · rw [show nameL (L l[i].f0) = false by simpa using hnm] at e1 e2
      exact fin 4 (Ev.bind e1 (by simp only [Bool.false_eq_true, if_false]; exact ev_all fun _ => rfl)) (Ev.bind e2 (by simp only [Bool.false_eq_true, if_false]; exact ev_all fun _ => rfl))
theorem check_both (l : List S40) (hs : Short l) : Both (fun k => word_Check.f k l) (fun k => canopyref1_Check.f k l) := by
  have two : Both (fun k => word_Check.j0 k l true) (fun k => canopyref1_Check.j0 k l true) := ⟨2, Ev.step (fun k => rfl) (by simp only [word_Check.j0, if_true]; exact ev_all fun _ => rfl), Ev.step (fun k => rfl) (by simp only [canopyref1_Check.j0, if_true]; exact ev_all fun _ => rfl)⟩
  unfold word_Check.f canopyref1_Check.f
  by_cases h0 : (l.length : Int) = 0
  · simp only [if_pos h0]
    exact two
  · simp only [if_neg h0]
    by_cases h1 : (l.length : Int) > 20
    · simp only [h1, decide_true]
      exact two
    · simp only [h1, decide_false]
      obtain ⟨r, h2, h3⟩ := check_l0 l hs l.length 0 (by omega)
      exact ⟨r, Ev.step (fun k => rfl) (by simp only [word_Check.j0, Bool.false_eq_true, if_false]; exact h2), Ev.step (fun k => rfl) (by simp only [canopyref1_Check.j0, Bool.false_eq_true, if_false]; exact h3)⟩
theorem Short.take {l : List S40} (h : Short l) (n : Nat) : Short (l.take n) := ⟨by have := h.1; rw [List.length_take]; omega, fun x hx => h.2 x (List.mem_of_mem_take hx)⟩
theorem Short.set {l : List S40} (h : Short l) (n : Nat) (y : S40) (hy : y.f0.size ≤ 1000) : Short (l.set n y) := ⟨by rw [List.length_set]; exact h.1, fun x hx => by
  rcases List.mem_or_eq_of_mem_set hx with hx | rfl
  · exact h.2 x hx
  · exact hy⟩
theorem checks_l0 (m : Int) (q : Nat) : ∀ (d i : Nat) (l : List S40), (i : Int) + d = m % 20 → Short l → l.length ≤ 100 + i → q ≤ l.length → i ≤ 20 → Ev (fun k => canopylaw1_WordChecks.l0 k m l (q : Int) (i : Int)) true := by
  intro d
  induction d with
  | zero =>
    intro i l hi hs hl hq hi2
    refine Ev.step (fun k => rfl) ?_
    simp only [canopylaw1_WordChecks.l0, within_eq m 20 (by omega) (by omega), Option.bind_some, if_neg (show ¬ ((i : Int) < m % 20) by omega)]
    obtain ⟨r, h1, h2⟩ := check_both l hs
    obtain ⟨r', h1', h2'⟩ := check_both (l.take q) (hs.take q)
    refine Ev.bind h1 (Ev.bind h2 ?_)
    simp only [if_true, if_pos (show (0 : Int) ≤ (q : Int) by omega), if_pos (show (q : Int) ≤ (l.length : Int) by omega), Int.toNat_natCast]
    refine Ev.bind h1' (Ev.bind h2' ?_)
    exact ev_all fun _ => by simp
  | succ d ih =>
    intro i l hi hs hl hq hi2
    have hm := Int.emod_lt_of_pos m (show (0 : Int) < 20 by omega)
    refine Ev.step (fun k => rfl) ?_
    have hw : wrap64 (97 + (i : Int)) = 97 + (i : Int) := wrap_id (by omega) (by omega)
    have hz : ∀ b : Int, (strOfNums [b]).size = 1 := fun b => rfl
    simp only [canopylaw1_WordChecks.l0, within_eq m 20 (by omega) (by omega), Option.bind_some, if_pos (show ((i : Int) < m % 20) by omega), hz, if_pos (show 1 + 1 ≤ 9223372036854775807 by omega), if_pos (show l.length < 5864062014805 by omega), wrap_succ i (by omega)]
    refine ih (i + 1) _ (by omega) ⟨?_, ?_⟩ ?_ ?_ (by omega)
    · have := hs.1
      rw [List.length_append, List.length_singleton]
      omega
    · intro x hx
      rcases List.mem_append.1 hx with hx | hx
      · exact hs.2 x hx
      · rw [List.mem_singleton.1 hx]
        show ((⟨#[110]⟩ : ByteArray) ++ strOfNums [_]).size ≤ 1000
        rw [ByteArray.size_append, hz]
        show 1 + 1 ≤ 1000
        omega
    · rw [List.length_append, List.length_singleton]; omega
    · rw [List.length_append, List.length_singleton]; omega
theorem good_short {l : List S40} (hg : goodB l = true) : Short l := by
  refine ⟨by have := good_len hg; omega, fun x hx => ?_⟩
  have h := (good_at hg hx).1
  simp only [nameB, Bool.and_eq_true, decide_eq_true_eq] at h
  omega
theorem checks_j1 (m : Int) (q : Nat) (l : List S40) (hs : Short l) (hl : l.length ≤ 100) (hq : q ≤ l.length) : Ev (fun k => canopylaw1_WordChecks.j1 k m l (q : Int)) true := by
  have a0 := Int.emod_nonneg m (show (20 : Int) ≠ 0 by omega)
  have a1 := Int.emod_lt_of_pos m (show (0 : Int) < 20 by omega)
  refine Ev.step (fun k => rfl) ?_
  simp only [canopylaw1_WordChecks.j1]
  exact checks_l0 m q (m % 20).toNat 0 l (by omega) hs (by omega) hq (by omega)
theorem checks_j0 (kind m : Int) (q : Nat) (l : List S40) (hs : Short l) (hl : l.length ≤ 100) (hq : q < l.length) : Ev (fun k => canopylaw1_WordChecks.j0 k kind m l (q : Int)) true := by
  refine Ev.step (fun k => rfl) ?_
  simp only [canopylaw1_WordChecks.j0, within_eq m 3 (by omega) (by omega), Option.bind_some]
  by_cases h : m % 3 = 1
  · have a0 := Int.emod_nonneg kind (show (7 : Int) ≠ 0 by omega)
    have a1 := Int.emod_lt_of_pos kind (show (0 : Int) < 7 by omega)
    simp only [if_pos h, within_eq kind 7 (by omega) (by omega), Option.bind_some, if_pos a0, List.length_cons, List.length_nil, if_pos (show kind % 7 < ((0 + 1 + 1 + 1 + 1 + 1 + 1 + 1 : Nat) : Int) by omega), if_pos (show (0 : Int) ≤ (q : Int) by omega), if_pos (show ((q : Int) < (l.length : Int)) by omega)]
    refine checks_j1 m q _ (hs.set _ _ ?_) (by rw [List.length_set]; exact hl) (by rw [List.length_set]; omega)
    show (rd_T40 l (q : Int)).f0.size ≤ 1000
    rw [rdT_get hq]
    exact hs.2 _ (List.getElem_mem hq)
  · simp only [if_neg h]
    exact checks_j1 m q l hs hl (by omega)
theorem WordChecks : canopylaw1_WordChecks.Pure := by
  intro n ns a name kind m _ _ _ _ _ _ _ _
  obtain ⟨l, hl, hg⟩ := syms_good n ns
  have hlen := good_len hg
  refine Ev.rounds (r := true) ?_
  unfold canopylaw1_WordChecks.f
  refine Ev.bind known_ev ?_
  simp only [if_true]
  by_cases h30 : (name.size : Int) > 30
  · simp only [if_pos h30]
    exact ev_all fun _ => rfl
  · have a0 := Int.emod_nonneg a (show ((l.length : Nat) : Int) ≠ 0 by omega)
    have a1 := Int.emod_lt_of_pos a (show (0 : Int) < (l.length : Int) by omega)
    simp only [if_neg h30, hl, Option.bind_some, List.nil_append, List.length_nil, Nat.zero_add, if_pos (show l.length < 5864062014805 by omega), within_eq a _ (show (0 : Int) < (l.length : Int) by omega) (by omega), within_eq m 3 (by omega) (by omega), if_pos a0, if_pos a1]
    obtain ⟨q, hq⟩ := Int.eq_ofNat_of_zero_le a0
    rw [hq] at a1 ⊢
    by_cases h3 : m % 3 = 0
    · simp only [if_pos h3, Int.toNat_natCast]
      exact checks_j0 kind m q _ ((good_short hg).set _ _ (by show name.size ≤ 1000; omega)) (by rw [List.length_set]; omega) (by rw [List.length_set]; omega)
    · simp only [if_neg h3]
      exact checks_j0 kind m q l (good_short hg) (by omega) (by omega)
end Go.Proofs.Ytiibfkjfanglbaa.Pure
