import Derived.Test.YtodbnnfiadcbaaaVcH
/- Calls. -/
set_option linter.unusedVariables false
set_option linter.unusedSimpArgs false
set_option linter.unusedSectionVars false
namespace Go.V
open Go.RowKit

def pos : List Nat → Nat → Option Nat
  | [], _ => none
  | j :: r, k => bif Nat.beq j k then some 0 else match pos r k with
    | some i => some (i + 1)
    | none => none
/-- A value as the one who is called sees it: what is lent by its new number, a row that is only shown as what never changes. -/
def cv0 (h : List AO) (lent bor : List Nat) : AV → AV
  | .rf (k, s) z off n => match pos lent k with
    | some j => .rf (j, s) z off n
    | none => bif bor.contains k then match s, h[k]? with
      | none, some (.row s' els) => bif Nat.beq s' z then .t (.sl ((els.drop off).take n)) else .junk
      | _, _ => .junk
      else .junk
  | .pt k off => match pos lent k with
    | some j => .pt j off
    | none => bif bor.contains k then match h[k]? with
      | some (.st cs) => match toTs cs with
        | some ts => .pT ts off
        | none => .junk
      | _ => .junk
      else .junk
  | .pe (k, s) z i off => match pos lent k with
    | some j => .pe (j, s) z i off
    | none => .junk
  | .mp k => match pos lent k with
    | some j => .mp j
    | none => .junk
  | .nl => .t (.sl [])
  | .t x => .t x
  | .pT el off => .pT el off
  | .fn f [] => .fn f []
  | _ => .junk
def cv1 (h : List AO) (lent bor : List Nat) : AV → AV
  | .agg cs => .agg (cs.map (cv0 h lent bor))
  | .fn f cs => .fn f (cs.map (cv0 h lent bor))
  | x => cv0 h lent bor x
def cv (h : List AO) (lent bor : List Nat) : AV → AV
  | .tup cs => .tup (cs.map (cv1 h lent bor))
  | .agg cs => .agg (cs.map (cv0 h lent bor))
  | .fn f cs => .fn f (cs.map (cv0 h lent bor))
  | x => cv0 h lent bor x
/-- What is shown is there. -/
def cvP0 (h : List AO) (lent : List Nat) : AV → Prop
  | .rf (k, _) _ off n => match pos lent k with
    | some _ => True
    | none => match h[k]? with
      | some (.row _ els) => off + n ≤ els.length
      | _ => True
  | _ => True
def cvPL (h : List AO) (lent : List Nat) : List AV → Prop
  | [] => True
  | x :: r => cvP0 h lent x ∧ cvPL h lent r
def cvP1 (h : List AO) (lent : List Nat) : List AV → Prop
  | [] => True
  | .agg cs :: r => cvPL h lent cs ∧ cvP1 h lent r
  | .fn _ cs :: r => cvPL h lent cs ∧ cvP1 h lent r
  | x :: r => cvP0 h lent x ∧ cvP1 h lent r

def cvP (h : List AO) (lent : List Nat) : List AV → Prop
  | [] => True
  | .tup cs :: r => cvP1 h lent cs ∧ cvP h lent r
  | .agg cs :: r => cvPL h lent cs ∧ cvP h lent r
  | .fn _ cs :: r => cvPL h lent cs ∧ cvP h lent r
  | x :: r => cvP0 h lent x ∧ cvP h lent r

/-- A lent object's cells. -/
def cl0 (lent : List Nat) : AV → AV
  | .rf (k, s) z off n => match pos lent k with
    | some j => .rf (j, s) z off n
    | none => .junk
  | .pt k off => match pos lent k with
    | some j => .pt j off
    | none => .junk
  | .pe (k, s) z i off => match pos lent k with
    | some j => .pe (j, s) z i off
    | none => .junk
  | .mp k => match pos lent k with
    | some j => .mp j
    | none => .junk
  | .nl => .nl
  | .t x => .t x
  | .pT el off => .pT el off
  | .fn f [] => .fn f []
  | _ => .junk
def clO (lent : List Nat) : AO → AO
  | .st cs => .st (cs.map (cl0 lent))
  | o => o

/-- Back again. -/
def bk (lent : List Nat) (L j : Nat) : Nat :=
  match lent[j]? with
  | some k => k
  | none => L + (j - lent.length)
def bk0 (lent : List Nat) (L : Nat) : AV → AV
  | .rf (j, s) z off n => .rf (bk lent L j, s) z off n
  | .pt j off => .pt (bk lent L j) off
  | .pe (j, s) z i off => .pe (bk lent L j, s) z i off
  | .mp j => .mp (bk lent L j)
  | .nl => .nl
  | .t x => .t x
  | .pT el off => .pT el off
  | .fn f [] => .fn f []
  | _ => .junk
def bkO (lent : List Nat) (L : Nat) : AO → AO
  | .st cs => .st (cs.map (bk0 lent L))
  | o => o

def gone (lent bor mv : List Nat) : List Nat := bor ++ mv.filterMap fun j => lent[j]?
def AS.after (σ : AS) (lent bor mv : List Nat) (h' : List AO) : AS :=
  let g := AS.um (gone lent bor mv)
  ⟨σ.n, fun i => (σ.l i).scrub g,
    (List.range σ.h.length).map (fun k => match pos lent k with
      | some j => bkO lent σ.h.length (h'.getD j .dead)
      | none => bif bor.contains k then .dead else (σ.h.getD k .dead).scrub g) ++ (h'.drop lent.length).map (bkO lent σ.h.length),
    gone lent bor mv ++ σ.m, σ.e⟩

section
variable {P : Program} {τ : Tys} {C : Ctx} {w w' : World} {own own' : Own} {hd hd' : Hd} {σ : AS} {a : Act} {lent bor mv : List Nat}

theorem pos_get : ∀ {l : List Nat} {k j : Nat}, pos l k = some j → l[j]? = some k
  | [], k, j, h => by cases h
  | i :: r, k, j, h => by
    simp only [pos] at h
    cases hb : Nat.beq i k with
    | true => rw [hb, cond_true] at h; cases h; rw [Nat.eq_of_beq_eq_true hb]; rfl
    | false =>
      rw [hb, cond_false] at h
      split at h
      · rename_i q hq
        cases h
        show r[q]? = some k
        exact pos_get hq
      · cases h
/-- Whose a block is, to the one who is called. -/
def ownC (own : Own) (lent bor : List Nat) : Own := fun b => match own b with
  | some (some (k, s)) => match pos lent k with
    | some j => ow (j, s)
    | none => bif bor.contains k then none else ext
  | some none => ext
  | none => none
def hdC (hd : Hd) (lent : List Nat) : Hd := fun r => hd (lent.getD r.1 0, r.2)

theorem ownC_none {b : Nat} (h : own b = none) : ownC own lent bor b = none := by unfold ownC; rw [h]
theorem ownC_ext {b : Nat} (h : own b = ext) : ownC own lent bor b = ext := by unfold ownC; rw [h]
theorem ownC_lent {b k j : Nat} {s : Option Nat} (h : own b = ow (k, s)) (hp : pos lent k = some j) : ownC own lent bor b = ow (j, s) := by unfold ownC; rw [h]; simp only [hp]
theorem ownC_bor {b k : Nat} {s : Option Nat} (h : own b = ow (k, s)) (hp : pos lent k = none) (hb : bor.contains k = true) : ownC own lent bor b = none := by unfold ownC; rw [h]; simp only [hp, hb, cond_true]
theorem ownC_oth {b k : Nat} {s : Option Nat} (h : own b = ow (k, s)) (hp : pos lent k = none) (hb : bor.contains k = false) : ownC own lent bor b = ext := by unfold ownC; rw [h]; simp only [hp, hb, cond_false]
theorem ownC_some {b j : Nat} {s : Option Nat} (h : ownC own lent bor b = ow (j, s)) : ∃ k, own b = ow (k, s) ∧ pos lent k = some j := by
  unfold ownC at h
  split at h
  · rename_i k s' e
    split at h
    · rename_i i hi; cases h; exact ⟨k, e, hi⟩
    · cases hb : bor.contains k with
      | true => rw [hb] at h; cases h
      | false => rw [hb] at h; cases h
  · cases h
  · cases h
theorem ownC_ext' {b : Nat} (h : ownC own lent bor b = ext) : own b = ext ∨ ∃ k s, own b = ow (k, s) ∧ pos lent k = none ∧ bor.contains k = false := by
  unfold ownC at h
  split at h
  · rename_i k s' e
    split at h
    · cases h
    · rename_i hp
      cases hb : bor.contains k with
      | true => rw [hb] at h; cases h
      | false => exact .inr ⟨k, s', e, hp, hb⟩
  · rename_i e; exact .inl e
  · cases h
theorem KeepC (w : World) (own : Own) (lent bor : List Nat) : Keep w own w (ownC own lent bor) := ⟨Nat.le_refl _, fun _ _ h => ⟨rfl, ownC_none h⟩⟩
theorem hdC_pos {k j : Nat} {s : Option Nat} (hp : pos lent k = some j) : hdC hd lent (j, s) = hd (k, s) := by
  unfold hdC; simp only [List.getD_eq_getElem?_getD, pos_get hp, Option.getD_some]

theorem rfC {k j z off n : Nat} {s : Option Nat} {v : Value} (hp : pos lent k = some j) (h : VR w own hd (.rf (k, s) z off n) v) : VR w (ownC own lent bor) (hdC hd lent) (.rf (j, s) z off n) v := by
  cases h with
  | rf h1 h2 =>
    refine .rf h1 (fun hc => ?_)
    obtain ⟨p, e1, e2, e3, e4⟩ := h2 hc
    exact ⟨p, by rw [hdC_pos hp]; exact e1, ownC_lent e2 hp, by rw [hdC_pos hp]; exact e3, e4⟩
theorem ptC {k j off : Nat} {v : Value} (hp : pos lent k = some j) (h : VR w own hd (.pt k off) v) : VR w (ownC own lent bor) (hdC hd lent) (.pt j off) v := by
  cases h with | pt h1 h2 => exact .pt (by rw [hdC_pos hp]; exact h1) (ownC_lent h2 hp)
theorem peC {k j z i off : Nat} {s : Option Nat} {v : Value} (hp : pos lent k = some j) (h : VR w own hd (.pe (k, s) z i off) v) : VR w (ownC own lent bor) (hdC hd lent) (.pe (j, s) z i off) v := by
  cases h with | pe h1 h2 => exact .pe (by rw [hdC_pos hp]; exact h1) (ownC_lent h2 hp)
theorem mpC {k j : Nat} {v : Value} (hp : pos lent k = some j) (h : VR w own hd (.mp k) v) : VR w (ownC own lent bor) (hdC hd lent) (.mp j) v := by
  cases h with | mp h1 h2 => exact .mp (by rw [hdC_pos hp]; exact h1) (ownC_lent h2 hp)
theorem pTC {el : List T} {off : Nat} {v : Value} (h : VR w own hd (.pT el off) v) : VR w (ownC own lent bor) (hdC hd lent) (.pT el off) v := by
  cases h with | pT ho hb hc hv => exact VR.pT' (KeepC w own lent bor) ho hb hc hv
theorem fnC {f : Nat} {v : Value} (h : VR w own hd (.fn f []) v) : VR w own' hd' (.fn f []) v := by
  cases h with | fn h1 h2 => exact .fn h1 (fun i x v hx => by simp at hx)

theorem cl0_ok {x : AV} {v : Value} (h : VR w own hd x v) : VR w (ownC own lent bor) (hdC hd lent) (cl0 lent x) v := by
  cases x with
  | rf r z off n =>
    obtain ⟨k, s⟩ := r
    simp only [cl0]
    cases hp : pos lent k with
    | some j => exact rfC hp h
    | none => exact .junk
  | pt k off =>
    simp only [cl0]
    cases hp : pos lent k with
    | some j => exact ptC hp h
    | none => exact .junk
  | pe r z i off =>
    obtain ⟨k, s⟩ := r
    simp only [cl0]
    cases hp : pos lent k with
    | some j => exact peC hp h
    | none => exact .junk
  | mp k =>
    simp only [cl0]
    cases hp : pos lent k with
    | some j => exact mpC hp h
    | none => exact .junk
  | nl => cases h with | nl => exact .nl
  | t x => exact .t (h.t'.keep (KeepC w own lent bor))
  | pT el off => exact pTC h
  | fn f cs => cases cs with
    | nil => exact fnC h
    | cons c r => exact .junk
  | _ => exact .junk

theorem cv0_ok {h : List AO} (hrel : Rel own hd h w) {x : AV} {v : Value} (hx : VR w own hd x v) (hP : cvP0 h lent x) : VR w (ownC own lent bor) (hdC hd lent) (cv0 h lent bor x) v := by
  cases x with
  | rf r z off n =>
    obtain ⟨k, s⟩ := r
    simp only [cv0]
    simp only [cvP0] at hP
    cases hp : pos lent k with
    | some j => exact rfC hp hx
    | none =>
      simp only [hp] at hP
      cases hb : bor.contains k with
      | false => exact .junk
      | true =>
        simp only [cond_true]
        split
        · rename_i s' els hk
          cases hz : Nat.beq s' z with
          | false => exact .junk
          | true =>
            obtain rfl := Nat.eq_of_beq_eq_true hz
            simp only [cond_true]
            simp only [hk] at hP
            obtain ⟨r1, r0, r2, r3, r4, r9, r5, r6⟩ := hrel.obj k _ hk
            have hl : ((els.drop off).take n).length = n := by rw [List.length_take, List.length_drop]; omega
            have get : ∀ (i : Nat) (el : List T), ((els.drop off).take n)[i]? = some el → els[off + i]? = some el := fun i el hi => by
              have := (take_get hi).2
              rwa [List.getElem?_drop] at this
            cases hx with
            | @rf _ _ _ _ c ad h1 h2 =>
              by_cases hc : c = 0
              · subst hc
                obtain rfl : n = 0 := by omega
                rw [List.take_zero]; exact .t .nil
              · obtain ⟨p, e1, e2, e3, rfl⟩ := h2 hc
                have hcell : ∀ (i : Nat) (el : List T) (j : Nat) (t : T), ((els.drop off).take n)[i]? = some el → el[j]? = some t → ∃ v, w.cell? ⟨p.1, p.2 + off * s' + (i * s' + j), none⟩ = some v ∧ TV w own t v := fun i el j t hi hj => by
                  obtain ⟨v, f1, f2⟩ := r6 p _ el j t e1 (get i el hi) hj
                  exact ⟨v, by rw [← f1]; congr 2; rw [Nat.add_mul]; omega, f2⟩
                have key : TV w (ownC own lent bor) (.sl ((els.drop off).take n)) (.slice (some ⟨p.1, p.2 + off * s', none⟩) ((els.drop off).take n).length c) := by
                  refine .sl (s := s') (ownC_bor e2 hp hb) (hrel.dom _ _ e2).1 (by rw [hl]; exact h1) (by rw [hl]; omega) (fun i el hi => r1 _ _ (get i el hi)) (fun i el j t hi hj => ?_) (fun i el j t v hi hj hc' => ?_) (.inl (r9 p e1))
                  · obtain ⟨v, f1, _⟩ := hcell i el j t hi hj
                    rw [f1]; rfl
                  · obtain ⟨v', f1, f2⟩ := hcell i el j t hi hj
                    rw [f1] at hc'
                    exact Option.some.inj hc' ▸ f2.keep (KeepC w own lent bor)
                rw [hl] at key
                exact .t key
        · exact .junk
  | pt k off =>
    simp only [cv0]
    cases hp : pos lent k with
    | some j => exact ptC hp hx
    | none =>
      cases hb : bor.contains k with
      | false => exact .junk
      | true =>
        simp only [cond_true]
        split
        · rename_i cs hk
          split
          · rename_i ts hts
            obtain ⟨q, g1, g2, g3, g4⟩ := hrel.obj k _ hk
            obtain ⟨t1, t2⟩ := toTs_get hts
            cases hx with
            | @pt _ _ p h1 h2 =>
              obtain rfl : p = q := Option.some.inj (h1.symm.trans g1)
              have hcell : ∀ (j : Nat) (t : T), ts[j]? = some t → ∃ v, w.cell? ⟨p.1, p.2 + j, none⟩ = some v ∧ TV w own t v := fun j t hj => by
                rcases t2 j t hj with h3 | ⟨h3, rfl⟩
                · obtain ⟨v, f1, f2, _⟩ := g4 j _ h3; exact ⟨v, f1, f2.t'⟩
                · obtain ⟨v, f1, f2, _⟩ := g4 j _ h3
                  refine ⟨v, f1, ?_⟩
                  cases f2 with | nl => exact .nil
              refine .pT (ownC_bor h2 hp hb) (hrel.dom _ _ h2).1 (fun j t hj => ?_) (fun j t v hj hc => ?_)
              · obtain ⟨v, f1, _⟩ := hcell j t hj; rw [f1]; rfl
              · obtain ⟨v', f1, f2⟩ := hcell j t hj
                rw [f1] at hc
                exact Option.some.inj hc ▸ f2.keep (KeepC w own lent bor)
          · exact .junk
        · exact .junk
  | pe r z i off =>
    obtain ⟨k, s⟩ := r
    simp only [cv0]
    cases hp : pos lent k with
    | some j => exact peC hp hx
    | none => exact .junk
  | mp k =>
    simp only [cv0]
    cases hp : pos lent k with
    | some j => exact mpC hp hx
    | none => exact .junk
  | nl => cases hx with | nl => exact .t .nil
  | t x => exact .t (hx.t'.keep (KeepC w own lent bor))
  | pT el off => exact pTC hx
  | fn f cs => cases cs with
    | nil => exact fnC hx
    | cons c r => exact .junk
  | _ => exact .junk

theorem cvPL_get {h : List AO} : ∀ {cs : List AV}, cvPL h lent cs → ∀ {i : Nat} {x : AV}, cs[i]? = some x → cvP0 h lent x
  | [], _, i, x, hx => by simp at hx
  | c :: r, hP, i, x, hx => by
    cases i with
    | zero => obtain rfl := Option.some.inj hx; exact hP.1
    | succ i => exact cvPL_get hP.2 hx

theorem cv1_ok {h : List AO} (hrel : Rel own hd h w) : ∀ (xs : List AV) (vs : List Value), vs.length = xs.length → (∀ (i : Nat) (x : AV) (v : Value), xs[i]? = some x → vs[i]? = some v → VR w own hd x v) → cvP1 h lent xs →
    ∀ (i : Nat) (y : AV) (v : Value), (xs.map (cv1 h lent bor))[i]? = some y → vs[i]? = some v → VR w (ownC own lent bor) (hdC hd lent) y v
  | [], _, _, _, _, i, y, v, hy, _ => by simp at hy
  | x :: xs, [], hl, _, _, _, _, _, _, _ => by simp at hl
  | x :: xs, u :: vs, hl, hv, hP, 0, y, v, hy, hu => by
    obtain rfl := Option.some.inj hu
    obtain rfl : cv1 h lent bor x = y := Option.some.inj hy
    have hx := hv 0 x u rfl rfl
    cases x with
    | agg cs => cases hx with
      | agg g1 g2 => exact .agg (by simpa using g1) (fun i z v hz hv => by obtain ⟨z', h1, rfl⟩ := getElem?_map_some hz; exact cv0_ok hrel (g2 i z' v h1 hv) (cvPL_get hP.1 h1))
    | fn f cs => cases hx with
      | fn g1 g2 => exact .fn (by simpa using g1) (fun i z v hz hv => by obtain ⟨z', h1, rfl⟩ := getElem?_map_some hz; exact cv0_ok hrel (g2 i z' v h1 hv) (cvPL_get hP.1 h1))
    | _ => exact cv0_ok hrel hx hP.1
  | x :: xs, u :: vs, hl, hv, hP, i + 1, y, v, hy, hu => by
    refine cv1_ok hrel xs vs (by simpa using hl) (fun i x v h1 h2 => hv (i + 1) x v h1 h2) ?_ i y v hy hu
    cases x <;> exact hP.2


theorem cv_ok {h : List AO} (hrel : Rel own hd h w) : ∀ (xs : List AV) (vs : List Value), vs.length = xs.length → (∀ (i : Nat) (x : AV) (v : Value), xs[i]? = some x → vs[i]? = some v → VR w own hd x v) → cvP h lent xs →
    ∀ (i : Nat) (y : AV) (v : Value), (xs.map (cv h lent bor))[i]? = some y → vs[i]? = some v → VR w (ownC own lent bor) (hdC hd lent) y v
  | [], _, _, _, _, i, y, v, hy, _ => by simp at hy
  | x :: xs, [], hl, _, _, _, _, _, _, _ => by simp at hl
  | x :: xs, u :: vs, hl, hv, hP, 0, y, v, hy, hu => by
    obtain rfl := Option.some.inj hu
    obtain rfl : cv h lent bor x = y := Option.some.inj hy
    have hx := hv 0 x u rfl rfl
    cases x with
    | tup cs => cases hx with
      | @tup _ us g1 g2 => exact .tup (by simpa using g1) (fun i z v hz hv => cv1_ok hrel cs us.toList (by simpa using g1) (fun i x v h1 h2 => g2 i x v h1 (by simpa using h2)) hP.1 i z v hz (by simpa using hv))
    | agg cs => cases hx with
      | agg g1 g2 => exact .agg (by simpa using g1) (fun i z v hz hv => by obtain ⟨z', h1, rfl⟩ := getElem?_map_some hz; exact cv0_ok hrel (g2 i z' v h1 hv) (cvPL_get hP.1 h1))
    | fn f cs => cases hx with
      | fn g1 g2 => exact .fn (by simpa using g1) (fun i z v hz hv => by obtain ⟨z', h1, rfl⟩ := getElem?_map_some hz; exact cv0_ok hrel (g2 i z' v h1 hv) (cvPL_get hP.1 h1))
    | _ => exact cv0_ok hrel hx hP.1
  | x :: xs, u :: vs, hl, hv, hP, i + 1, y, v, hy, hu => by
    refine cv_ok hrel xs vs (by simpa using hl) (fun i x v h1 h2 => hv (i + 1) x v h1 h2) ?_ i y v hy hu
    cases x <;> exact hP.2


theorem clO_ok {k j : Nat} {o : AO} (hp : pos lent k = some j) (h : ObjAt w own hd k o) : ObjAt w (ownC own lent bor) (hdC hd lent) j (clO lent o) := by
  cases o with
  | dead => trivial
  | st cs =>
    obtain ⟨q, h1, h2, h3, h4⟩ := h
    refine ⟨q, by rw [hdC_pos hp]; exact h1, ownC_lent h2 hp, by rw [List.length_map]; exact h3, fun i x hx => ?_⟩
    obtain ⟨y, hy, rfl⟩ := getElem?_map_some hx
    obtain ⟨v, e1, e2, e3⟩ := h4 i y hy
    exact ⟨v, e1, cl0_ok e2, e3⟩
  | row s els =>
    obtain ⟨h1, h0, h2, h3, h4, h9, h5, h6⟩ := h
    refine ⟨h1, h0, by rw [hdC_pos hp]; exact h2, by rw [hdC_pos hp]; exact h3, fun q hq => ?_, (fun q hq => by rw [hdC_pos hp] at hq; exact h9 q hq), fun q hq => ?_, fun q i el jj t hq he hj => ?_⟩
    · rw [hdC_pos hp] at hq; exact ownC_lent (h4 q hq) hp
    · rw [hdC_pos hp] at hq ⊢; exact h5 q hq
    · rw [hdC_pos hp] at hq
      obtain ⟨v, f1, f2⟩ := h6 q i el jj t hq he hj
      exact ⟨v, f1, f2.keep (KeepC w own lent bor)⟩

end
end Go.V
