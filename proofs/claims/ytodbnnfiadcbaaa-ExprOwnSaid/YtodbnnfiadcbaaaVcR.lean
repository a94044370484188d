import Derived.Test.YtodbnnfiadcbaaaVcO
/- A row of nil slices is a row whose elements are rows of their own. -/
set_option linter.unusedVariables false
set_option linter.unusedSimpArgs false
set_option linter.unusedSectionVars false
namespace Go.V
open Go.RowKit
variable [Wid]
section
variable {P : Program} {τ : Tys} {σ : AS}
def rn (k K : Nat) : AV → AV
 | .rf (j, none) z off n => bif Nat.beq j k then .rf (K, none) z off n else .rf (j, none) z off n
 | x => x.scrub (nk k)
def AS.nst (σ : AS) (k s : Nat) (els : List (List T)) : AS :=
 ⟨σ.n, fun i => rn k σ.h.length (σ.l i), ((σ.h.map (AO.scrub (nk k))).set k .dead) ++ [.nest 1 s (els.map fun _ => ([], []))], k :: σ.m, σ.e⟩
theorem See.nest (k s : Nat) {els : List (List T)} (hk : σ.h[k]? = some (.row 1 els)) (hz : ∀ el ∈ els, el = [T.sl []]) : See σ (σ.nst k s els) := fun C own hd a w h => by
 have hklt := (List.getElem?_eq_some_iff.1 hk).1
 obtain ⟨h1, h0, h2, h3, h4, h9, h5, h6⟩ := h.rel.obj k _ hk
 let own1 : Own := fun b => match own b with
  | some (some r) => if r.1 = k then (if r.2 = none then ow (σ.h.length, none) else none) else ow r
  | some none => ext
  | none => none
 let hd1 : Hd := fun r => if r.1 = σ.h.length then (if r.2 = none then hd (k, none) else (none, 0)) else hd r
 have on : ∀ {b}, own b = none → own1 b = none := fun {b} hb => by simp only [own1, hb]
 have oe : ∀ {b}, own b = ext → own1 b = ext := fun {b} hb => by simp only [own1, hb]
 have oj : ∀ {b}, own b = ow (k, none) → own1 b = ow (σ.h.length, none) := fun {b} hb => by simp only [own1, hb, if_true]
 have oo : ∀ {b r}, own b = ow r → r.1 ≠ k → own1 b = ow r := fun {b r} hb h1 => by simp only [own1, hb, if_neg h1]
 have back : ∀ {b r}, own1 b = ow r → (own b = ow (k, none) ∧ r = (σ.h.length, none)) ∨ (own b = ow r ∧ r.1 ≠ k) := fun {b r} hb => by
  cases hq : own b with
  | none => rw [on hq] at hb; cases hb
  | some x =>
   cases x with
   | none => rw [oe hq] at hb; cases hb
   | some x =>
    obtain ⟨x1, x2⟩ := x
    simp only [own1, hq] at hb
    split at hb
    ·rename_i e
     split at hb
     ·rename_i e2; subst e; subst e2; cases hb; exact .inl ⟨rfl, rfl⟩
     ·cases hb
    ·rename_i e; cases hb; exact .inr ⟨rfl, e⟩
 have backe : ∀ {b}, own1 b = ext → own b = ext := fun {b} hb => by
  cases hq : own b with
  | none => rw [on hq] at hb; cases hb
  | some x =>
   cases x with
   | none => rfl
   | some x =>
    simp only [own1, hq] at hb
    split at hb
    ·split at hb <;> cases hb
    ·cases hb
 have fr : Fr w own w own1 := ⟨rfl, rfl, rfl, Nat.le_refl _, fun b _ h => ⟨rfl, on h⟩, fun b h => ⟨rfl, oe h⟩, fun b h => backe h⟩
 have dl : ∀ {b r}, own b = ow r → r.1 ≠ σ.h.length := fun {b r} hb e => by have := (h.rel.dom b r hb).2; omega
 have st : Stay own hd own1 hd1 (nk k) := fun r b hr hb => ⟨by simp only [hd1, if_neg (dl hb)], oo hb (nk_ne hr)⟩
 have hK : hd1 (σ.h.length, none) = hd (k, none) := by simp only [hd1, if_true]
 have hKs : ∀ i, hd1 (σ.h.length, some i) = (none, 0) := fun i => by simp only [hd1, if_true]; rfl
 refine ⟨own1, hd1, ⟨fun m o hm => ?_, fun b r hb => ?_, fun b hb => h.rel.lt b (backe hb)⟩, h.fr.trans fr, ?_, fun x hx => ?_, h.le, h.dfr, h.size, fun x hx => ?_⟩
 ·simp only [AS.nst] at hm
  rcases Nat.lt_or_ge m σ.h.length with hlt | hge
  ·rw [List.getElem?_append_left (by simpa using hlt)] at hm
   by_cases hmk : m = k
   ·subst hmk
    rw [List.getElem?_set_self (by simpa using hklt)] at hm
    obtain rfl := Option.some.inj hm
    trivial
   ·rw [List.getElem?_set_ne (Ne.symm hmk)] at hm
    obtain ⟨o1, ho1, rfl⟩ := getElem?_map_some hm
    exact (h.rel.obj m o1 ho1).keep fr.keep st (fun s => by simp only [hd1]; rw [if_neg (by omega)]) (fun b s hb => ⟨rfl, (oo hb hmk).trans hb.symm⟩)
  ·rw [List.getElem?_append_right (by simpa using hge)] at hm
   obtain rfl : m = σ.h.length := by
    have := (List.getElem?_eq_some_iff.1 hm).1
    simp at this; omega
   simp at hm
   subst hm
   have hel : ∀ {i : Nat} {pre : List T} {inner : List (List T)}, (els.map fun _ => (([], []) : List T × List (List T)))[i]? = some (pre, inner) → pre = [] ∧ inner = [] ∧ els[i]? = some [T.sl []] := fun {i pre inner} hi => by
    obtain ⟨el, h1, h2⟩ := getElem?_map_some hi
    cases h2
    exact ⟨rfl, rfl, by rw [h1, hz el (List.mem_of_getElem? h1)]⟩
   refine ⟨by rw [List.length_map]; exact h0, by rw [List.length_map, hK]; exact h2, by rw [hK]; exact h3, fun q hq => ?_, fun q hq => ?_, fun q hq => ?_, fun i pre inner he => ?_, fun q i pre inner j t hq he ht => ?_, fun q i pre inner hq he => ?_, fun i pre inner he => ?_⟩
   ·rw [hK] at hq; exact oj (h4 q hq)
   ·rw [hK] at hq; exact h9 q hq
   ·rw [hK] at hq ⊢; exact h5 q hq
   ·obtain ⟨rfl, rfl, _⟩ := hel he; rfl
   ·obtain ⟨rfl, rfl, _⟩ := hel he; cases ht
   ·rw [hK] at hq
    obtain ⟨rfl, rfl, he2⟩ := hel he
    obtain ⟨v, e1, e2⟩ := h6 q i _ 0 _ hq he2 rfl
    refine ⟨v, e1, ?_, fun h => absurd h (Nat.lt_irrefl 0)⟩
    cases e2 with
    | nil => exact ⟨_, _, rfl⟩
    | sl => exact ⟨_, _, rfl⟩
   ·obtain ⟨rfl, rfl, _⟩ := hel he
    refine ⟨(fun i el h => by cases h), Nat.zero_le _, Nat.zero_le _, fun _ => by rw [hKs], fun p hp => ?_, fun p hp => ?_, fun p hp => ?_, fun p i el j t hp => ?_⟩
    all_goals rw [hKs] at hp; cases hp
 ·simp only [AS.nst, List.length_append, List.length_set, List.length_map, List.length_cons, List.length_nil]
  rcases back hb with ⟨h1, rfl⟩ | ⟨h1, _⟩
  ·exact ⟨(h.rel.dom b _ h1).1, Nat.lt_succ_self _⟩
  ·have := h.rel.dom b _ h1; exact ⟨this.1, by omega⟩
 ·refine fun r b hr hb => ?_
  simp only [Ctx.um, AS.nst, List.contains_cons, Bool.not_or, Bool.and_eq_true] at hr
  obtain ⟨e1, e2⟩ := h.stay r b (by simp only [Ctx.um, Bool.and_eq_true]; exact ⟨hr.1, hr.2.2⟩) hb
  have n1 : r.1 ≠ k := fun e => by have := hr.2.1; rw [e] at this; simp at this
  exact ⟨by simp only [hd1]; rw [if_neg (dl e2)]; exact e1, oo e2 n1⟩
 ·simp only [AS.nst, List.contains_cons, h.gr x hx, Bool.or_true]
 ·have hv := h.slot x hx
  show VR w own1 hd1 (rn k σ.h.length (σ.l x)) _
  have gen := hv.keep fr.keep st
  cases hl : σ.l x with
  | rf r z off n =>
   obtain ⟨j, s'⟩ := r
   rw [hl] at hv gen
   cases s' with
   | none =>
    simp only [rn]
    cases hj : Nat.beq j k with
    | true =>
     obtain rfl := Nat.eq_of_beq_eq_true hj
     rw [cond_true]
     revert hv
     generalize a.tmps.getD x undef = vv
     intro hv
     cases hv with
     | rf g1 g2 => exact .rf g1 fun hc => by obtain ⟨p, e1, e2, e3, e4⟩ := g2 hc; exact ⟨p, by rw [hK]; exact e1, oj e2, by rw [hK]; exact e3, e4⟩
    | false =>
     rw [cond_false]
     have : (AV.rf (j, none) z off n).scrub (nk k) = .rf (j, none) z off n := by
      show (bif nk k j then AV.rf (j, none) z off n else .junk) = _
      rw [show nk k j = true by simp only [nk, hj, Bool.not_false], cond_true]
     rwa [this] at gen
   | some i => rw [← hl] at gen ⊢; rw [hl] at gen ⊢; exact gen
  | _ => rw [hl] at gen; exact gen
end
end Go.V
