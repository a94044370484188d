import Derived.Test.YtodbnnfiadcbaaaVcU
/- A nil slice in a variable's field is a row of its own, with nothing in it. -/
set_option linter.unusedVariables false
set_option linter.unusedSimpArgs false
namespace Go.V
open Go.RowKit
section
variable {P : Program} {τ : Tys} {σ : AS}
theorem See.openC (k j s : Nat) {cs : List AV} (hk : σ.h[k]? = some (.st cs)) (hc : cs[j]? = some .nl) :
    See σ ⟨σ.n, σ.l, (σ.h.set k (.st (cs.set j (.rf (σ.h.length, none) s 0 0)))) ++ [.row s []], σ.m, σ.e⟩ := fun C own hd a w h => by
  obtain ⟨own', hd', s1, _⟩ := h.new_nil s none
  refine ⟨own', hd', ⟨⟨fun i o hi => ?_, fun b r hb => by have := s1.rel.dom b r hb; simpa [AS.new] using this, s1.rel.lt⟩, s1.fr, s1.stay, s1.gr, s1.le, s1.dfr, s1.size, s1.slot⟩⟩
  have hkl := (List.getElem?_eq_some_iff.1 hk).1
  simp only at hi
  by_cases hik : i = k
  · subst hik
    rw [List.getElem?_append_left (by simpa using hkl), List.getElem?_set_self hkl] at hi
    cases hi
    have ho := s1.rel.obj i (.st cs) (by simp only [AS.new]; rw [List.getElem?_append_left hkl]; exact hk)
    obtain ⟨p, q1, q2, q3, q4⟩ := ho
    refine ⟨p, q1, q2, by rw [List.length_set]; exact q3, fun l x hx => ?_⟩
    by_cases hlj : l = j
    · subst hlj
      obtain ⟨v, e1, e2, e3⟩ := q4 l .nl hc
      rw [List.getElem?_set_self (List.getElem?_eq_some_iff.1 hc).1] at hx
      cases hx
      cases e2
      exact ⟨_, e1, .rf (Nat.le_refl _) (fun e => absurd rfl e), e3⟩
    · rw [List.getElem?_set_ne (Ne.symm hlj)] at hx
      exact q4 l x hx
  · refine s1.rel.obj i o ?_
    simp only [AS.new]
    rcases Nat.lt_or_ge i σ.h.length with hl | hl
    · rw [List.getElem?_append_left (by simpa using hl), List.getElem?_set_ne (Ne.symm hik)] at hi
      rw [List.getElem?_append_left hl]; exact hi
    · rw [List.getElem?_append_right (by simpa using hl), List.length_set] at hi
      rw [List.getElem?_append_right hl]; exact hi
theorem set_same {α : Type} {l : List α} {j : Nat} {x : α} (h : l[j]? = some x) : l.set j x = l := by
  obtain ⟨hl, rfl⟩ := List.getElem?_eq_some_iff.1 h
  exact List.set_getElem_self hl
theorem cz_row {h : List AO} {k s n : Nat} {els : List (List T)} (hk : h[k]? = some (.row s els)) (hn : els.length = n) : cz h k (.rf (k, none) s 0 n) = .t (.sl els) := by
  subst hn
  have : cv0 h [] [k] (.rf (k, none) s 0 els.length) = .t (.sl (List.take els.length (List.drop 0 els))) := by
    simp [cv0, hk, show pos [] k = none from rfl]
  simp [cz, hk, this, show Nat.ble els.length els.length = true from Nat.ble_eq.mpr (Nat.le_refl _)]
/-- Object k, a row, is closed; cell j of object Y shows it whole. -/
theorem See.clC (k Y j s : Nat) {cs : List AV} {els : List (List T)} {n : Nat} (hY : σ.h[Y]? = some (.st cs)) (hk : σ.h[k]? = some (.row s els)) (hc : cs[j]? = some (.rf (k, none) s 0 n)) (hn : els.length = n) :
    See σ ⟨σ.n, fun i => cz σ.h k (σ.l i), ((σ.h.map (czO σ.h k)).set Y (.st ((cs.map (cz σ.h k)).set j (.t (.sl els))))).set k .dead, k :: σ.m, σ.e⟩ := by
  have e1 : (cs.map (cz σ.h k)).set j (.t (.sl els)) = cs.map (cz σ.h k) := set_same (by rw [List.getElem?_map, hc]; exact congrArg some (cz_row hk hn))
  have e2 : (σ.h.map (czO σ.h k)).set Y (.st (cs.map (cz σ.h k))) = σ.h.map (czO σ.h k) := set_same (by rw [List.getElem?_map, hY]; rfl)
  rw [e1, e2]
  exact See.cl k (Nat.blt_eq.mpr (List.getElem?_eq_some_iff.1 hk).1)
end
end Go.V
