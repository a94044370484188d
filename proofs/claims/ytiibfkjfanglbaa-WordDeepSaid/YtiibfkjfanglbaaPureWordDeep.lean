/- WordDeep holds: a word is as deep as its deepest front, no deeper than it has symbols that open, and not deep if it has none; no condition beside the row's own. -/
import Derived.Test.YtiibfkjfanglbaaPx38
import Derived.Test.YtiibfkjfanglbaaWordMatch
import Derived.Test.YtiibfkjfanglbaaWordKnownTrue
namespace Go.Proofs.Ytiibfkjfanglbaa.Pure
open Go.RowKit Go.Proofs.Ytiibfkjfanglbaa.P Go.Proofs.YtiibfkjfanglbaaW.PrintWords Go.Proofs.YtiibfkjfanglbaaW.PrintLast Go.Proofs.YtiibfkjfanglbaaW.PrintMore Go.Proofs.YtiibfkjfanglbaaL
def opensOf (ks : List Int) : Nat := ks.countP (· == 1)
theorem dnow_nonneg (k now : Int) (h : 0 ≤ now) : 0 ≤ dnow k now := by unfold dnow; split; omega; split <;> omega
theorem dgo_most : ∀ (ks : List Int) (now most : Int), most ≤ dgo ks now most
  | [], now, most => Int.le_refl _
  | k :: ks, now, most => by
    have := dgo_most ks (dnow k now) (max most (dnow k now))
    show most ≤ dgo ks _ _
    omega
def dlast : List Int → Int → Int
  | [], now => now
  | k :: ks, now => dlast ks (dnow k now)
theorem dgo_append : ∀ (a b : List Int) (now most : Int), dgo (a ++ b) now most = dgo b (dlast a now) (dgo a now most)
  | [], _, _, _ => rfl
  | k :: a, b, now, most => dgo_append a b (dnow k now) (max most (dnow k now))
theorem dgo_le : ∀ (ks : List Int) (now most : Int), 0 ≤ now → dgo ks now most ≤ max most (now + opensOf ks)
  | [], now, most, _ => by show most ≤ _; omega
  | k :: ks, now, most, h => by
    have g := dgo_le ks (dnow k now) (max most (dnow k now)) (dnow_nonneg k now h)
    show dgo ks _ _ ≤ _
    have e : (opensOf (k :: ks) : Int) = (if k = 1 then 1 else 0) + opensOf ks := by
      unfold opensOf
      rw [List.countP_cons]
      by_cases hk : k = 1
      · simp [hk]; omega
      · simp [hk]
    rw [e]
    have hd : dnow k now ≤ now + (if k = 1 then 1 else 0) := by unfold dnow; split; omega; split <;> omega
    omega
theorem dgo_pos : ∀ (ks : List Int) (now most : Int), 0 ≤ now → 0 < opensOf ks → 1 ≤ dgo ks now most
  | [], now, most, _, h => by simp [opensOf] at h
  | k :: ks, now, most, h0, h => by
    show 1 ≤ dgo ks _ _
    by_cases hk : k = 1
    · have := dgo_most ks (dnow k now) (max most (dnow k now))
      have hd : dnow k now = now + 1 := by unfold dnow; rw [if_pos hk]
      omega
    · refine dgo_pos ks _ _ (dnow_nonneg k now h0) ?_
      unfold opensOf at h ⊢
      rw [List.countP_cons] at h
      simpa [hk] using h
theorem deep_l0 (l : List S40) (w : List Int) (hf : Fit l w) (hw : w.length ≤ 1000) (c : Nat) (hc : c ≤ w.length) : ∀ (d i : Nat) (o : Nat), i + d = w.length → o ≤ i → o + opensOf (kds l (w.drop i)) = opensOf (kds l w) →
    Ev (fun k => canopylaw1_WordDeep.l0 k l w (c : Int) (o : Int) (i : Int)) true := by
  intro d
  induction d with
  | zero =>
    intro i o hd ho he
    rw [List.drop_eq_nil_of_le (by omega)] at he
    have he : o = opensOf (kds l w) := by simpa [kds, opensOf] using he
    refine Ev.step (fun k => rfl) ?_
    simp only [canopylaw1_WordDeep.l0, if_neg (show ¬ ((i : Int) < (w.length : Int)) by omega)]
    refine Ev.bind (pdeep_ev l w hf (by omega)) ?_
    simp only [if_pos (show (0 : Int) ≤ (c : Int) by omega), if_pos (show ((c : Int) ≤ (w.length : Int)) by omega), Int.toNat_natCast]
    refine Ev.bind (pdeep_ev l (w.take c) (fun x hx => hf x (List.mem_of_mem_take hx)) (by rw [List.length_take]; omega)) ?_
    have e1 : kds l w = kds l (w.take c) ++ kds l (w.drop c) := by unfold kds; rw [← List.map_append, List.take_append_drop]
    have h1 : dgo (kds l (w.take c)) 0 0 ≤ dgo (kds l w) 0 0 := by rw [e1, dgo_append]; exact dgo_most _ _ _
    have h2 := dgo_le (kds l w) 0 0 (Int.le_refl _)
    have h3 := dgo_most (kds l w) 0 0
    have h4 := dgo_pos (kds l w) 0 0 (Int.le_refl _)
    rw [← he] at h2 h4
    simp only [if_pos h1, if_pos (show dgo (kds l w) 0 0 ≤ (o : Int) by omega)]
    refine ev_all fun _ => ?_
    congr 1
    by_cases hz : o = 0
    · have : dgo (kds l w) 0 0 = 0 := by omega
      rw [this, hz]
      rfl
    · have h5 := h4 (by omega)
      have a : ((o : Int) == 0) = false := beq_eq_false_iff_ne.2 (by omega)
      have b : (dgo (kds l w) 0 0 == 0) = false := beq_eq_false_iff_ne.2 (by omega)
      rw [a, b]
      rfl
  | succ d ih =>
    intro i o hd ho he
    have hi : i < w.length := by omega
    have hx := hf _ (List.getElem_mem hi)
    have e1 : rd w (i : Int) = w[i] := rd_get hi
    rw [List.drop_eq_getElem_cons hi] at he
    have hk : kds l (w[i] :: w.drop (i + 1)) = kd l w[i] :: kds l (w.drop (i + 1)) := rfl
    have hc1 : opensOf (kd l w[i] :: kds l (w.drop (i + 1))) = opensOf (kds l (w.drop (i + 1))) + if kd l w[i] = 1 then 1 else 0 := by
      unfold opensOf
      rw [List.countP_cons]
      simp
    rw [hk, hc1] at he
    refine Ev.step (fun k => rfl) ?_
    simp only [canopylaw1_WordDeep.l0, if_pos (show ((i : Int) < (w.length : Int)) by omega), if_pos (show (0 : Int) ≤ (i : Int) by omega), e1, if_pos hx.1, if_pos hx.2, wrap_succ _ (show i ≤ 9223372036854775000 by omega), wrap_succ _ (show o ≤ 9223372036854775000 by omega)]
    show Ev (fun k => if kd l w[i] = 1 then _ else _) true
    by_cases h1 : kd l w[i] = 1
    · simp only [if_pos h1]
      refine ih (i + 1) (o + 1) (by omega) (by omega) ?_
      rw [if_pos h1] at he
      omega
    · simp only [if_neg h1]
      refine ih (i + 1) o (by omega) (by omega) ?_
      rw [if_neg h1] at he
      omega
theorem WordDeep : canopylaw1_WordDeep.Pure := by
  intro n ns c _ _ _ _ _
  obtain ⟨l, hl, hg⟩ := syms_good n ns
  have hlen := good_len hg
  have hf := wordOf_fit l hlen.1 ns 40
  have hw := wordOf_len l ns 40
  refine Ev.rounds (r := true) ?_
  unfold canopylaw1_WordDeep.f
  refine Ev.bind known_ev ?_
  simp only [if_true, hl, Option.bind_some]
  refine Ev.bind (word_ev l hlen.1 (by omega) ns 40 (by omega)) ?_
  generalize wordOf l ns 40 = w at *
  simp only [wrap_succ w.length (by omega), within_eq c ((w.length + 1 : Nat) : Int) (by omega) (by omega), Option.bind_some]
  have a0 := Int.emod_nonneg c (show ((w.length + 1 : Nat) : Int) ≠ 0 by omega)
  have a1 := Int.emod_lt_of_pos c (show (0 : Int) < ((w.length + 1 : Nat) : Int) by omega)
  obtain ⟨q, hq⟩ := Int.eq_ofNat_of_zero_le a0
  rw [hq] at a1 ⊢
  exact deep_l0 l w hf (by omega) q (by omega) w.length 0 0 (by omega) (by omega) (by simp)
end Go.Proofs.Ytiibfkjfanglbaa.Pure
