/- A whole word laid into another: the others' partners stay theirs. -/
import Derived.Test.YtiibfkjfanglbaaPx13
import Derived.Test.YtiibfkjfanglbaaWordMatch
namespace Go.Proofs.YtiibfkjfanglbaaL
open Go.RowKit Go.Proofs.Ytiibfkjfanglbaa.P Go.Proofs.YtiibfkjfanglbaaW.PrintWords Go.Proofs.YtiibfkjfanglbaaW.PrintLast Go.Proofs.YtiibfkjfanglbaaW.PrintMore
theorem mrow_o {k : Int} (h : k = 1) (ks p : List Int) (s : List Nat) : mrow (k :: ks) p s = mrow ks (p ++ [-1]) (p.length :: s) := by simp only [mrow, if_pos h]
theorem mrow_c0 {k : Int} (h1 : ¬ k = 1) (h2 : k = 2) (ks p : List Int) : mrow (k :: ks) p [] = mrow ks (p ++ [-1]) [] := by simp only [mrow, if_neg h1, if_pos h2]
theorem mrow_cj {k : Int} (h1 : ¬ k = 1) (h2 : k = 2) (ks p : List Int) (j : Nat) (s : List Nat) : mrow (k :: ks) p (j :: s) = mrow ks ((p ++ [(j : Int)]).set j (p.length : Int)) s := by simp only [mrow, if_neg h1, if_pos h2]
theorem mrow_n {k : Int} (h1 : ¬ k = 1) (h2 : ¬ k = 2) (ks p : List Int) (s : List Nat) : mrow (k :: ks) p s = mrow ks (p ++ [-1]) s := by simp only [mrow, if_neg h1, if_neg h2]
/-- A row on its way: what stands open lies in it, and so do the partners. -/
def Way (p : List Int) (s : List Nat) : Prop := (∀ j ∈ s, j < p.length) ∧ ∀ m ∈ p, m < (p.length : Int)
theorem Way.push {p : List Int} {s : List Nat} (h : Way p s) : Way (p ++ [-1]) (p.length :: s) ∧ Way (p ++ [-1]) s := by
  have hl : (p ++ [(-1 : Int)]).length = p.length + 1 := by simp
  have h2 : ∀ m ∈ p ++ [(-1 : Int)], m < ((p ++ [(-1 : Int)]).length : Int) := by
    intro m hm
    rw [hl]
    rcases List.mem_append.1 hm with hm | hm
    · have := h.2 m hm; omega
    · simp at hm; omega
  refine ⟨⟨fun j hj => ?_, h2⟩, ⟨fun j hj => ?_, h2⟩⟩
  · rw [hl]
    rcases List.mem_cons.1 hj with rfl | hj
    · omega
    · have := h.1 j hj; omega
  · rw [hl]
    have := h.1 j hj; omega
theorem Way.pop {p : List Int} {j : Nat} {s : List Nat} (h : Way p (j :: s)) : Way ((p ++ [(j : Int)]).set j (p.length : Int)) s := by
  have hj := h.1 j (by simp)
  have hl : ((p ++ [(j : Int)]).set j (p.length : Int)).length = p.length + 1 := by simp
  refine ⟨fun q hq => ?_, fun m hm => ?_⟩
  · rw [hl]
    have := h.1 q (by simp [hq]); omega
  · rw [hl]
    rcases List.mem_or_eq_of_mem_set hm with hm | rfl
    · rcases List.mem_append.1 hm with hm | hm
      · have := h.2 m hm; omega
      · simp at hm; omega
    · omega
/-- The row behind a front of the word. -/
theorem mrow_front : ∀ (A p : List Int) (s : List Nat), Way p s → ∃ p' s', (∀ R, mrow (A ++ R) p s = mrow R p' s') ∧ p'.length = p.length + A.length ∧ Way p' s'
  | [], p, s, h => ⟨p, s, fun _ => rfl, by simp, h⟩
  | k :: A, p, s, h => by
    by_cases h1 : k = 1
    · obtain ⟨p', s', e, el, ew⟩ := mrow_front A _ _ h.push.1
      refine ⟨p', s', fun R => ?_, by rw [el]; simp; omega, ew⟩
      rw [← e R, List.cons_append, mrow_o h1]
    · by_cases h2 : k = 2
      · cases s with
        | nil =>
          obtain ⟨p', s', e, el, ew⟩ := mrow_front A _ _ h.push.2
          refine ⟨p', s', fun R => ?_, by rw [el]; simp; omega, ew⟩
          rw [← e R, List.cons_append, mrow_c0 h1 h2]
        | cons j s =>
          obtain ⟨p', s', e, el, ew⟩ := mrow_front A _ _ h.pop
          refine ⟨p', s', fun R => ?_, by rw [el]; simp; omega, ew⟩
          rw [← e R, List.cons_append, mrow_cj h1 h2]
      · obtain ⟨p', s', e, el, ew⟩ := mrow_front A _ _ h.push.2
        refine ⟨p', s', fun R => ?_, by rw [el]; simp; omega, ew⟩
        rw [← e R, List.cons_append, mrow_n h1 h2]
/-- What doesn't stand open any more stays as it is. -/
theorem mrow_stays : ∀ (ks p : List Int) (s : List Nat) (j : Nat), j < p.length → j ∉ s → (mrow ks p s)[j]? = p[j]?
  | [], _, _, _, _, _ => rfl
  | k :: ks, p, s, j, hj, hs => by
    have hl : (p ++ [(-1 : Int)]).length = p.length + 1 := by simp
    have ea : ∀ x : Int, (p ++ [x])[j]? = p[j]? := fun x => List.getElem?_append_left hj
    by_cases h1 : k = 1
    · rw [mrow_o h1, mrow_stays ks _ _ j (by rw [hl]; omega) (by simp [hs]; omega), ea]
    · by_cases h2 : k = 2
      · cases s with
        | nil => rw [mrow_c0 h1 h2, mrow_stays ks _ _ j (by rw [hl]; omega) (by simp), ea]
        | cons q s =>
          simp only [List.mem_cons, not_or] at hs
          rw [mrow_cj h1 h2, mrow_stays ks _ _ j (by simp; omega) hs.2, List.getElem?_set_ne (fun e => hs.1 e.symm), ea]
      · rw [mrow_n h1 h2, mrow_stays ks _ _ j (by rw [hl]; omega) hs, ea]
theorem allz_at : ∀ (ks ms : List Int) (j : Nat) (k m : Int), allz ks ms = true → ks[j]? = some k → ms[j]? = some m → m < 0 → k = 3
  | k0 :: ks, m0 :: ms, 0, k, m, h, hk, hm, h0 => by
    simp at hk hm
    subst hk hm
    simp only [allz, Bool.and_eq_true] at h
    have := h.1
    simp [h0] at this
    exact this
  | k0 :: ks, m0 :: ms, j + 1, k, m, h, hk, hm, h0 => by
    simp only [allz, Bool.and_eq_true] at h
    exact allz_at ks ms j k m h.2 (by simpa using hk) (by simpa using hm) h0
  | [], _, _, _, _, _, hk, _, _ => by simp at hk
  | _ :: _, [], _, _, _, _, _, hm, _ => by simp at hm
def sh (b : Nat) (m : Int) : Int := if m < 0 then m else m + (b : Int)
/-- A whole word leaves what stood open ahead of it as it was. -/
theorem mrow_whole (K pre : List Int) (st : List Nat) : ∀ (ks p : List Int) (s : List Nat), p.length + ks.length = K.length → K.drop p.length = ks → Way p s → s.Nodup → (∀ j ∈ s, K[j]? = some 1 ∧ p[j]? = some (-1)) →
    allz K (mrow ks p s) = true → ∀ C, mrow (ks ++ C) (pre ++ p.map (sh pre.length)) (s.map (· + pre.length) ++ st) = mrow C (pre ++ (mrow ks p s).map (sh pre.length)) st
  | [], p, s, _, _, _, _, hs, hz, C => by
    cases s with
    | nil => rfl
    | cons j s =>
      have := hs j (by simp)
      exact absurd (allz_at K p j 1 (-1) hz this.1 this.2 (by omega)) (by omega)
  | k :: ks, p, s, hl, hd, hw, hn, hs, hz, C => by
    have hk : K[p.length]? = some k := by rw [← List.head?_drop, hd]; rfl
    have hd2 : ∀ q : List Int, q.length = p.length + 1 → K.drop q.length = ks := by
      intro q hq
      rw [hq, ← List.tail_drop, hd]; rfl
    have hl1 : (p ++ [(-1 : Int)]).length = p.length + 1 := by simp
    have hnot : p.length ∉ s := fun h => by have := hw.1 _ h; omega
    have hs1 : ∀ j ∈ s, K[j]? = some 1 ∧ (p ++ [(-1 : Int)])[j]? = some (-1) := fun j hj => ⟨(hs j hj).1, by rw [List.getElem?_append_left (hw.1 j hj)]; exact (hs j hj).2⟩
    have em : ∀ x : Int, (pre ++ p.map (sh pre.length)) ++ [sh pre.length x] = pre ++ (p ++ [x]).map (sh pre.length) := fun x => by simp
    have e1 : sh pre.length (-1) = -1 := rfl
    have el : (pre ++ p.map (sh pre.length)).length = p.length + pre.length := by simp; omega
    simp only [List.length_cons] at hl
    by_cases h1 : k = 1
    · have ih := mrow_whole K pre st ks (p ++ [-1]) (p.length :: s) (by rw [hl1]; omega) (hd2 _ hl1) hw.push.1 (List.nodup_cons.2 ⟨hnot, hn⟩) (fun j hj => by
        rcases List.mem_cons.1 hj with rfl | hj
        · exact ⟨by rw [hk, h1], by simp⟩
        · exact hs1 j hj) (by rw [mrow_o h1] at hz; exact hz) C
      rw [List.cons_append, mrow_o h1, mrow_o h1, ← ih, ← em, e1, el]
      rfl
    · by_cases h2 : k = 2
      · cases s with
        | nil =>
          rw [mrow_c0 h1 h2] at hz
          have := mrow_stays ks (p ++ [-1]) [] p.length (by rw [hl1]; omega) (by simp)
          rw [List.getElem?_append_right (Nat.le_refl _), Nat.sub_self] at this
          exact absurd (allz_at K _ p.length k (-1) hz hk (this.trans rfl) (by omega)) (by omega)
        | cons j s =>
          have hj := hw.1 j (by simp)
          have hn2 := List.nodup_cons.1 hn
          have hl2 : ((p ++ [(j : Int)]).set j (p.length : Int)).length = p.length + 1 := by simp
          have ih := mrow_whole K pre st ks ((p ++ [(j : Int)]).set j (p.length : Int)) s (by rw [hl2]; omega) (hd2 _ hl2) hw.pop hn2.2 (fun q hq => by
            refine ⟨(hs q (by simp [hq])).1, ?_⟩
            rw [List.getElem?_set_ne (fun e => hn2.1 (by rw [e]; exact hq)), List.getElem?_append_left (hw.1 q (by simp [hq]))]
            exact (hs q (by simp [hq])).2) (by rw [mrow_cj h1 h2] at hz; exact hz) C
          show mrow (k :: (ks ++ C)) (pre ++ p.map (sh pre.length)) ((j + pre.length) :: (s.map (· + pre.length) ++ st)) = mrow C (pre ++ (mrow (k :: ks) p (j :: s)).map (sh pre.length)) st
          rw [mrow_cj h1 h2, mrow_cj h1 h2, ← ih, el]
          show mrow (ks ++ C) (((pre ++ p.map (sh pre.length)) ++ [((j + pre.length : Nat) : Int)]).set (j + pre.length) ((p.length + pre.length : Nat) : Int)) (s.map (· + pre.length) ++ st) = _
          have ej : ((j + pre.length : Nat) : Int) = sh pre.length (j : Int) := by unfold sh; rw [if_neg (by omega)]; omega
          have ep : ((p.length + pre.length : Nat) : Int) = sh pre.length (p.length : Int) := by unfold sh; rw [if_neg (by omega)]; omega
          rw [ej, ep, em, List.set_append_right _ _ (by omega), Nat.add_sub_cancel, List.map_set]
      · have ih := mrow_whole K pre st ks (p ++ [-1]) s (by rw [hl1]; omega) (hd2 _ hl1) hw.push.2 hn hs1 (by rw [mrow_n h1 h2] at hz; exact hz) C
        rw [List.cons_append, mrow_n h1 h2, mrow_n h1 h2, ← ih, ← em, e1]
/-! the rest -/
def fx (a n j : Nat) : Nat := if j < a then j else j + n
def gx (a n : Nat) (m : Int) : Int := if m < (a : Int) then m else m + (n : Int)
def Rel (a n : Nat) (p x : List Int) : Prop := x.length = p.length + n ∧ ∀ j, j < p.length → x[fx a n j]? = (p[j]?).map (gx a n)
theorem Rel.snoc {a n : Nat} {p x : List Int} (h : Rel a n p x) (ha : a ≤ p.length) (v : Int) : Rel a n (p ++ [v]) (x ++ [gx a n v]) := by
  refine ⟨by simp [h.1]; omega, fun j hj => ?_⟩
  simp only [List.length_append, List.length_cons, List.length_nil] at hj
  by_cases hj2 : j < p.length
  · rw [List.getElem?_append_left (by rw [h.1]; unfold fx; split <;> omega), List.getElem?_append_left hj2]
    exact h.2 j hj2
  · have e : j = p.length := by omega
    subst e
    have e2 : fx a n p.length = x.length := by rw [h.1]; unfold fx; rw [if_neg (by omega)]
    rw [e2]
    simp
theorem Rel.put {a n : Nat} {p x : List Int} (h : Rel a n p x) (q : Nat) (v : Int) : Rel a n (p.set q v) (x.set (fx a n q) (gx a n v)) := by
  refine ⟨by simp [h.1], fun j hj => ?_⟩
  rw [List.length_set] at hj
  have hx : fx a n j < x.length := by rw [h.1]; unfold fx; split <;> omega
  by_cases e : q = j
  · subst e
    rw [List.getElem?_set_self hx, List.getElem?_set_self hj]
    rfl
  · rw [List.getElem?_set_ne (by unfold fx; split <;> split <;> omega), List.getElem?_set_ne e]
    exact h.2 j hj
theorem mrow_rel (a n : Nat) : ∀ (C p x : List Int) (s : List Nat), Rel a n p x → a ≤ p.length → Rel a n (mrow C p s) (mrow C x (s.map (fx a n)))
  | [], _, _, _, h, _ => h
  | k :: C, p, x, s, h, ha => by
    have e1 : gx a n (-1) = -1 := by unfold gx; rw [if_pos (by omega)]
    have el : x.length = fx a n p.length := by rw [h.1]; unfold fx; rw [if_neg (by omega)]
    have hs := h.snoc ha (-1)
    rw [e1] at hs
    by_cases h1 : k = 1
    · rw [mrow_o h1, mrow_o h1, el]
      exact mrow_rel a n C _ _ (p.length :: s) hs (by simp; omega)
    · by_cases h2 : k = 2
      · cases s with
        | nil =>
          rw [mrow_c0 h1 h2, List.map_nil, mrow_c0 h1 h2]
          exact mrow_rel a n C _ _ [] hs (by simp; omega)
        | cons j s =>
          rw [mrow_cj h1 h2, List.map_cons, mrow_cj h1 h2]
          have ej : ((fx a n j : Nat) : Int) = gx a n (j : Int) := by unfold fx gx; split <;> split <;> omega
          have ep : ((x.length : Nat) : Int) = gx a n (p.length : Int) := by rw [h.1]; unfold gx; rw [if_neg (by omega)]; omega
          show Rel a n _ (mrow C ((x ++ [((fx a n j : Nat) : Int)]).set (fx a n j) ((x.length : Nat) : Int)) (s.map (fx a n)))
          rw [ej, ep]
          exact mrow_rel a n C _ _ s ((h.snoc ha _).put j _) (by simp; omega)
      · rw [mrow_n h1 h2, mrow_n h1 h2]
        exact mrow_rel a n C _ _ s hs (by simp; omega)
theorem mrow_insert (A W C : List Int) (hz : allz W (mrow W [] []) = true) : Rel A.length W.length (mrow (A ++ C) [] []) (mrow (A ++ W ++ C) [] []) := by
  obtain ⟨p, s, e, el, hw⟩ := mrow_front A [] [] ⟨by simp, by simp⟩
  simp only [List.length_nil, Nat.zero_add] at el
  rw [e C, List.append_assoc, e (W ++ C)]
  have := mrow_whole W p s W [] [] (by simp) rfl ⟨by simp, by simp⟩ List.nodup_nil (by simp) hz C
  simp only [List.map_nil, List.append_nil, List.nil_append] at this
  rw [this]
  have es : s.map (fx A.length W.length) = s := by
    have : ∀ j ∈ s, fx A.length W.length j = id j := fun j hj => by have := hw.1 j hj; unfold fx; rw [if_pos (by omega)]; rfl
    rw [List.map_congr_left this, List.map_id]
  have hr : Rel A.length W.length p (p ++ (mrow W [] []).map (sh p.length)) := by
    refine ⟨by simp [mrow_len], fun j hj => ?_⟩
    have e2 : fx A.length W.length j = j := by unfold fx; rw [if_pos (by omega)]
    rw [e2, List.getElem?_append_left hj, List.getElem?_eq_getElem hj]
    have := hw.2 _ (List.getElem_mem hj)
    simp only [Option.map_some]
    unfold gx
    rw [if_pos (by omega)]
  have := mrow_rel A.length W.length C _ _ s hr (by omega)
  rw [es] at this
  exact this
end Go.Proofs.YtiibfkjfanglbaaL
