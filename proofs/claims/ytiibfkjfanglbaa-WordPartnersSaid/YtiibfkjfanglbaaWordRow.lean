/- What the row of partners is: partners of one another, none crossing; plain lists alone. -/
import Derived.Test.YtiibfkjfanglbaaWordMatch
namespace Go.Proofs.YtiibfkjfanglbaaL
/-- K: the kinds; i: so many places are told; M: their partners; st: what stands open, the last one first. -/
structure Row (K : Nat → Int) (i : Nat) (M : Nat → Int) (st : List Nat) : Prop where
  s0 : st.Pairwise (· > ·)
  s1 : ∀ j ∈ st, j < i ∧ K j = 1 ∧ M j = -1
  f1 : ∀ x, x < i → M x = -1 → x ∈ st ∨ K x = 3 ∨ (K x = 2 ∧ ∀ j ∈ st, x < j)
  f2 : ∀ x, x < i → M x ≠ -1 → ∃ q : Nat, M x = (q : Int) ∧ q < i ∧ M q = (x : Int) ∧ ((x < q ∧ K x = 1 ∧ K q = 2) ∨ (q < x ∧ K q = 1 ∧ K x = 2))
  f3 : ∀ a b : Nat, a < i → M a = (b : Int) → a < b → ∀ x, a < x → x < b → (M x = -1 → K x = 3) ∧ (M x ≠ -1 → (a : Int) < M x ∧ M x < (b : Int))
  f4 : ∀ j ∈ st, ∀ x, j < x → x < i → (M x = -1 → x ∈ st ∨ K x = 3) ∧ (M x ≠ -1 → (j : Int) < M x)
theorem Row.start (K M : Nat → Int) : Row K 0 M [] :=
  ⟨.nil, fun j hj => by simp at hj, fun x hx => by omega, fun x hx => by omega, fun a b ha => by omega, fun j hj => by simp at hj⟩
/-- A place without a partner, yet. -/
theorem Row.bare {K : Nat → Int} {i : Nat} {M : Nat → Int} {st st' : List Nat} (h : Row K i M st) (M' : Nat → Int) (hi : M' i = -1) (ho : ∀ x, x < i → M' x = M x)
    (hk : (K i = 1 ∧ st' = i :: st) ∨ (K i = 3 ∧ st' = st) ∨ (K i = 2 ∧ st = [] ∧ st' = [])) : Row K (i + 1) M' st' := by
  have hsub : ∀ j, j ∈ st → j ∈ st' := by
    intro j hj
    rcases hk with ⟨_, rfl⟩ | ⟨_, rfl⟩ | ⟨_, rfl, rfl⟩
    · exact List.mem_cons_of_mem _ hj
    · exact hj
    · exact hj
  have hsup : ∀ j, j ∈ st' → j ∈ st ∨ (j = i ∧ K i = 1) := by
    intro j hj
    rcases hk with ⟨hk, rfl⟩ | ⟨_, rfl⟩ | ⟨_, rfl, rfl⟩
    · rcases List.mem_cons.1 hj with rfl | hj
      · exact .inr ⟨rfl, hk⟩
      · exact .inl hj
    · exact .inl hj
    · exact .inl hj
  refine ⟨?_, ?_, ?_, ?_, ?_, ?_⟩
  · rcases hk with ⟨_, rfl⟩ | ⟨_, rfl⟩ | ⟨_, rfl, rfl⟩
    · exact List.pairwise_cons.2 ⟨fun j hj => (h.s1 j hj).1, h.s0⟩
    · exact h.s0
    · exact .nil
  · intro j hj
    rcases hsup j hj with hj | ⟨rfl, hk1⟩
    · have := h.s1 j hj
      exact ⟨by omega, this.2.1, by rw [ho j this.1]; exact this.2.2⟩
    · exact ⟨by omega, hk1, hi⟩
  · intro x hx hm
    by_cases hxi : x = i
    · subst hxi
      rcases hk with ⟨_, rfl⟩ | ⟨hk, _⟩ | ⟨hk, _, rfl⟩
      · exact .inl (by simp)
      · exact .inr (.inl hk)
      · exact .inr (.inr ⟨hk, by simp⟩)
    · rw [ho x (by omega)] at hm
      rcases h.f1 x (by omega) hm with h1 | h1 | ⟨h1, h2⟩
      · exact .inl (hsub x h1)
      · exact .inr (.inl h1)
      · refine .inr (.inr ⟨h1, fun j hj => ?_⟩)
        rcases hsup j hj with hj | ⟨rfl, _⟩
        · exact h2 j hj
        · omega
  · intro x hx hm
    have hxi : x ≠ i := fun e => hm (e ▸ hi)
    rw [ho x (by omega)] at hm ⊢
    obtain ⟨q, h1, h2, h3, h4⟩ := h.f2 x (by omega) hm
    exact ⟨q, h1, by omega, by rw [ho q h2]; exact h3, h4⟩
  · intro a b ha hab hlt x h1 h2
    have hai : a ≠ i := fun e => by rw [e, hi] at hab; omega
    rw [ho a (by omega)] at hab
    obtain ⟨q, e1, e2, _⟩ := h.f2 a (by omega) (by rw [hab]; omega)
    have : q = b := by rw [hab] at e1; omega
    subst this
    rw [ho x (by omega)]
    exact h.f3 a q (by omega) hab hlt x h1 h2
  · intro j hj x h1 h2
    rcases hsup j hj with hj | ⟨rfl, _⟩
    · by_cases hxi : x = i
      · subst hxi
        refine ⟨fun _ => ?_, fun hn => absurd hi hn⟩
        rcases hk with ⟨_, rfl⟩ | ⟨hk, _⟩ | ⟨_, rfl, _⟩
        · exact .inl (by simp)
        · exact .inr hk
        · simp at hj
      · rw [ho x (by omega)]
        obtain ⟨a, b⟩ := h.f4 j hj x h1 (by omega)
        exact ⟨fun hm => (a hm).imp (hsub x) id, b⟩
    · omega
/-- What stands open last is closed. -/
theorem Row.shut {K : Nat → Int} {i j : Nat} {M : Nat → Int} {st : List Nat} (h : Row K i M (j :: st)) (M' : Nat → Int) (hk : K i = 2) (hi : M' i = (j : Int)) (hj : M' j = (i : Int)) (ho : ∀ x, x < i → x ≠ j → M' x = M x) : Row K (i + 1) M' st := by
  obtain ⟨hji, hKj, hMj⟩ := h.s1 j (by simp)
  have hs := List.pairwise_cons.1 h.s0
  have hne : ∀ x, x < i → M x ≠ -1 → x ≠ j := fun x _ hm e => hm (e ▸ hMj)
  refine ⟨hs.2, ?_, ?_, ?_, ?_, ?_⟩
  · intro q hq
    have h1 := h.s1 q (by simp [hq])
    have h2 : q < j := hs.1 q hq
    exact ⟨by omega, h1.2.1, by rw [ho q h1.1 (by omega)]; exact h1.2.2⟩
  · intro x hx hm
    have hxi : x ≠ i := fun e => by rw [e, hi] at hm; omega
    have hxj : x ≠ j := fun e => by rw [e, hj] at hm; omega
    rw [ho x (by omega) hxj] at hm
    rcases h.f1 x (by omega) hm with h1 | h1 | ⟨h1, h2⟩
    · rcases List.mem_cons.1 h1 with h1 | h1
      · exact absurd h1 hxj
      · exact .inl h1
    · exact .inr (.inl h1)
    · exact .inr (.inr ⟨h1, fun q hq => h2 q (by simp [hq])⟩)
  · intro x hx hm
    by_cases hxi : x = i
    · subst hxi
      exact ⟨j, hi, by omega, hj, .inr ⟨hji, hKj, hk⟩⟩
    · by_cases hxj : x = j
      · subst hxj
        exact ⟨i, hj, by omega, hi, .inl ⟨hji, hKj, hk⟩⟩
      · rw [ho x (by omega) hxj] at hm ⊢
        obtain ⟨q, h1, h2, h3, h4⟩ := h.f2 x (by omega) hm
        exact ⟨q, h1, by omega, by rw [ho q h2 (hne q h2 (by rw [h3]; omega))]; exact h3, h4⟩
  · intro a b ha hab hlt x h1 h2
    by_cases hai : a = i
    · subst hai
      rw [hi] at hab
      omega
    · by_cases haj : a = j
      · subst haj
        have : b = i := by rw [hj] at hab; omega
        subst this
        rw [ho x h2 (by omega)]
        obtain ⟨p, q⟩ := h.f4 a (by simp) x h1 h2
        refine ⟨fun hm => ?_, fun hm => ⟨q hm, ?_⟩⟩
        · rcases p hm with hx | hx
          · rcases List.mem_cons.1 hx with hx | hx
            · omega
            · have : x < a := hs.1 x hx
              omega
          · exact hx
        · obtain ⟨r, e1, e2, _⟩ := h.f2 x h2 hm
          rw [e1]
          omega
      · rw [ho a (by omega) haj] at hab
        obtain ⟨q, e1, e2, e3, _⟩ := h.f2 a (by omega) (by rw [hab]; omega)
        have : q = b := by rw [hab] at e1; omega
        subst this
        have hx := h.f3 a q (by omega) hab hlt
        have hxj : x ≠ j := fun e => by
          subst e
          have := (hx x h1 h2).1 hMj
          omega
        rw [ho x (by omega) hxj]
        exact hx x h1 h2
  · intro q hq x h1 h2
    have hqj : q < j := hs.1 q hq
    by_cases hxi : x = i
    · subst hxi
      rw [hi]
      exact ⟨fun e => by omega, fun _ => by omega⟩
    · by_cases hxj : x = j
      · subst hxj
        rw [hj]
        exact ⟨fun e => by omega, fun _ => by omega⟩
      · rw [ho x (by omega) hxj]
        obtain ⟨a, b⟩ := h.f4 q (by simp [hq]) x h1 (by omega)
        refine ⟨fun hm => ?_, b⟩
        rcases a hm with a | a
        · rcases List.mem_cons.1 a with a | a
          · exact absurd a hxj
          · exact .inl a
        · exact .inr a

theorem getD_snoc (pre : List Int) (v : Int) (x : Nat) (hx : x < pre.length) : (pre ++ [v]).getD x 0 = pre.getD x 0 := by
  simp [List.getD_eq_getElem?_getD, List.getElem?_append_left hx]
theorem getD_last (pre : List Int) (v : Int) : (pre ++ [v]).getD pre.length 0 = v := by simp [List.getD_eq_getElem?_getD]
theorem getD_set (xs : List Int) (j x : Nat) (v : Int) (hj : j < xs.length) : (xs.set j v).getD x 0 = if x = j then v else xs.getD x 0 := by
  by_cases h : x = j
  · subst h
    simp [List.getD_eq_getElem?_getD, hj]
  · have h' : j ≠ x := fun e => h e.symm
    simp [List.getD_eq_getElem?_getD, h, h']
theorem mrow_row (K : Nat → Int) : ∀ (ks pre : List Int) (st : List Nat) (M : Nat → Int), (∀ x, x < ks.length → ks.getD x 0 = K (pre.length + x)) → Kinds ks → (∀ x, x < pre.length → pre.getD x 0 = M x) → Row K pre.length M st →
    ∃ M' st', (∀ x, x < pre.length + ks.length → (mrow ks pre st).getD x 0 = M' x) ∧ Row K (pre.length + ks.length) M' st'
  | [], pre, st, M, _, _, hM, hR => ⟨M, st, by simpa [mrow] using hM, by simpa using hR⟩
  | k :: ks, pre, st, M, hK, hks, hM, hR => by
    have hk0 : k = K pre.length := by simpa using hK 0 (by simp)
    have hrest : ∀ (pre' : List Int), pre'.length = pre.length + 1 → ∀ x, x < ks.length → ks.getD x 0 = K (pre'.length + x) := by
      intro pre' hl x hx
      have := hK (x + 1) (by simp; omega)
      rw [hl, Nat.add_assoc, Nat.add_comm 1 x]
      simpa using this
    have hks' : Kinds ks := fun q hq => hks q (by simp [hq])
    have hl1 : (pre ++ [(-1 : Int)]).length = pre.length + 1 := by simp
    have bare : ∀ st', ((K pre.length = 1 ∧ st' = pre.length :: st) ∨ (K pre.length = 3 ∧ st' = st) ∨ (K pre.length = 2 ∧ st = [] ∧ st' = [])) → mrow (k :: ks) pre st = mrow ks (pre ++ [-1]) st' →
        ∃ M' st'', (∀ x, x < pre.length + (k :: ks).length → (mrow (k :: ks) pre st).getD x 0 = M' x) ∧ Row K (pre.length + (k :: ks).length) M' st'' := by
      intro st' hst he
      obtain ⟨M', st'', h1, h2⟩ := mrow_row K ks (pre ++ [-1]) st' (fun x => if x = pre.length then -1 else M x) (hrest _ hl1) hks' (fun x hx => by
        rw [hl1] at hx
        by_cases hxi : x = pre.length
        · subst hxi
          rw [getD_last]; simp
        · rw [getD_snoc _ _ _ (by omega), hM x (by omega)]; simp [hxi]) (by
        rw [hl1]
        exact hR.bare _ (by simp) (fun x hx => by simp [Nat.ne_of_lt hx]) hst)
      rw [hl1] at h1 h2
      refine ⟨M', st'', fun x hx => ?_, ?_⟩
      · rw [he]
        exact h1 x (by simp at hx; omega)
      · have e : pre.length + (k :: ks).length = pre.length + 1 + ks.length := by simp; omega
        rw [e]
        exact h2
    by_cases h1 : k = 1
    · exact bare (pre.length :: st) (.inl ⟨by rw [← hk0, h1], rfl⟩) (by rw [mrow.eq_def]; exact if_pos h1)
    · by_cases h2 : k = 2
      · cases st with
        | nil => exact bare [] (.inr (.inr ⟨by rw [← hk0, h2], rfl, rfl⟩)) (by rw [mrow, if_neg h1, if_pos h2])
        | cons j st =>
          have hj := (hR.s1 j (by simp)).1
          have hl2 : ((pre ++ [(j : Int)]).set j (pre.length : Int)).length = pre.length + 1 := by simp
          obtain ⟨M', st'', g1, g2⟩ := mrow_row K ks ((pre ++ [(j : Int)]).set j (pre.length : Int)) st (fun x => if x = j then (pre.length : Int) else if x = pre.length then (j : Int) else M x) (hrest _ hl2) hks' (fun x hx => by
            rw [hl2] at hx
            rw [getD_set _ _ _ _ (by simp; omega)]
            by_cases hxj : x = j
            · simp [hxj]
            · rw [if_neg hxj]
              simp only [if_neg hxj]
              by_cases hxi : x = pre.length
              · subst hxi
                rw [getD_last]; simp
              · rw [getD_snoc _ _ _ (by omega), hM x (by omega)]; simp [hxi]) (by
            rw [hl2]
            refine hR.shut _ (by rw [← hk0, h2]) ?_ (by simp) (fun x hx hxj => by simp [hxj, Nat.ne_of_lt hx])
            rw [if_neg (by omega), if_pos rfl])
          rw [hl2] at g1 g2
          have he : mrow (k :: ks) pre (j :: st) = mrow ks ((pre ++ [(j : Int)]).set j (pre.length : Int)) st := by rw [mrow, if_neg h1, if_pos h2]
          refine ⟨M', st'', fun x hx => ?_, ?_⟩
          · rw [he]
            exact g1 x (by simp at hx; omega)
          · have e : pre.length + (k :: ks).length = pre.length + 1 + ks.length := by simp; omega
            rw [e]
            exact g2
      · have h3 : k = 3 := by rcases hks k (by simp) with h | h | h <;> omega
        exact bare st (.inr (.inl ⟨by rw [← hk0, h3], rfl⟩)) (by rw [mrow.eq_def]; exact (if_neg h1).trans (if_neg h2))
theorem mrow_all (ks : List Int) (hk : Kinds ks) : ∃ M st, (∀ x, x < ks.length → (mrow ks [] []).getD x 0 = M x) ∧ Row (fun x => ks.getD x 0) ks.length M st := by
  obtain ⟨M, st, h1, h2⟩ := mrow_row (fun x => ks.getD x 0) ks [] [] (fun _ => 0) (by simp) hk (by simp) (Row.start _ _)
  exact ⟨M, st, by simpa using h1, by simpa using h2⟩
end Go.Proofs.YtiibfkjfanglbaaL
