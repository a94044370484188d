import Derived.Test.YtodbnnfiadcbaaaVcH
/- Calls. -/
set_option linter.unusedVariables false
set_option linter.unusedSimpArgs false
set_option linter.unusedSectionVars false
namespace Go.V
open Go.RowKit
variable [Wid]

def pos : List Nat → Nat → Option Nat
 | [], _ => none
 | j :: r, k => bif Nat.beq j k then some 0 else match pos r k with
  | some i => some (i + 1)
  | none => none
def nd (n : Nat) : List Nat → Bool
 | [] => true
 | k :: r => Nat.blt k n && (match pos r k with | some _ => false | none => true) && nd n r

def nestT (x : List T × List (List T)) : List T := x.1 ++ [.sl x.2]
def cv0 (h : List AO) (lent bor : List Nat) : AV → AV
 | .rf (k, s) z off n => match pos lent k with
  | some j => .rf (j, s) z off n
  | none => bif bor.contains k then match s, h[k]? with
   | none, some (.row s' els) => bif Nat.beq s' z then .t (.sl ((els.drop off).take n)) else .junk
   | none, some (.nest z' _ els) => bif Nat.beq z' z then .t (.sl (((els.map nestT).drop off).take n)) else .junk
   | _, _ => .junk
   else .junk
 | .pt k off => match pos lent k with
  | some j => .pt j off
  | none => bif bor.contains k then match h[k]? with
   | some (.st cs) => match toTs cs with
    | some ts => .pT ts off
    | none => .junk
   | _ => .junk
   else .junk
 | .pe (k, s) z i off => match pos lent k with
  | some j => .pe (j, s) z i off
  | none => .junk
 | .mp k => match pos lent k with
  | some j => .mp j
  | none => .junk
 | .nl => .t (.sl [])
 | .t x => .t x
 | .pT el off => .pT el off
 | .fn f [] => .fn f []
 | _ => .junk
def cv1 (h : List AO) (lent bor : List Nat) : AV → AV
 | .agg cs => .agg (cs.map (cv0 h lent bor))
 | .fn f cs => .fn f (cs.map (cv0 h lent bor))
 | x => cv0 h lent bor x
def cv (h : List AO) (lent bor : List Nat) : AV → AV
 | .tup cs => .tup (cs.map (cv1 h lent bor))
 | .agg cs => .agg (cs.map (cv0 h lent bor))
 | .fn f cs => .fn f (cs.map (cv0 h lent bor))
 | x => cv0 h lent bor x
def cvP0 (h : List AO) (lent : List Nat) : AV → Prop
 | .rf (k, _) _ off n => match pos lent k with
  | some _ => True
  | none => match h[k]? with
   | some (.row _ els) => off + n ≤ els.length
   | some (.nest _ _ els) => off + n ≤ els.length
   | _ => True
 | _ => True
def cvPL (h : List AO) (lent : List Nat) : List AV → Prop
 | [] => True
 | x :: r => cvP0 h lent x ∧ cvPL h lent r
def cvP1 (h : List AO) (lent : List Nat) : List AV → Prop
 | [] => True
 | .agg cs :: r => cvPL h lent cs ∧ cvP1 h lent r
 | .fn _ cs :: r => cvPL h lent cs ∧ cvP1 h lent r
 | x :: r => cvP0 h lent x ∧ cvP1 h lent r

def cvP (h : List AO) (lent : List Nat) : List AV → Prop
 | [] => True
 | .tup cs :: r => cvP1 h lent cs ∧ cvP h lent r
 | .agg cs :: r => cvPL h lent cs ∧ cvP h lent r
 | .fn _ cs :: r => cvPL h lent cs ∧ cvP h lent r
 | x :: r => cvP0 h lent x ∧ cvP h lent r

def cl0 (lent : List Nat) : AV → AV
 | .rf (k, s) z off n => match pos lent k with
  | some j => .rf (j, s) z off n
  | none => .junk
 | .pt k off => match pos lent k with
  | some j => .pt j off
  | none => .junk
 | .pe (k, s) z i off => match pos lent k with
  | some j => .pe (j, s) z i off
  | none => .junk
 | .mp k => match pos lent k with
  | some j => .mp j
  | none => .junk
 | .nl => .nl
 | .t x => .t x
 | .pT el off => .pT el off
 | .fn f [] => .fn f []
 | _ => .junk
def clO (lent : List Nat) : AO → AO
 | .st cs => .st (cs.map (cl0 lent))
 | o => o

def bk (lent : List Nat) (L j : Nat) : Nat :=
 match lent[j]? with
 | some k => k
 | none => L + (j - lent.length)
def bk0 (lent : List Nat) (L : Nat) : AV → AV
 | .rf (j, s) z off n => .rf (bk lent L j, s) z off n
 | .pt j off => .pt (bk lent L j) off
 | .pe (j, s) z i off => .pe (bk lent L j, s) z i off
 | .mp j => .mp (bk lent L j)
 | .nl => .nl
 | .t x => .t x
 | .pT el off => .pT el off
 | .fn f [] => .fn f []
 | _ => .junk
def bk1 (lent : List Nat) (L : Nat) : AV → AV
 | .agg cs => .agg (cs.map (bk0 lent L))
 | x => bk0 lent L x
def bk2 (lent : List Nat) (L : Nat) : AV → AV
 | .tup cs => .tup (cs.map (bk1 lent L))
 | x => bk1 lent L x
def bkO (lent : List Nat) (L : Nat) : AO → AO
 | .st cs => .st (cs.map (bk0 lent L))
 | o => o

def gone (lent bor mv : List Nat) : List Nat := bor ++ mv.filterMap fun j => lent[j]?
def AS.after (σ : AS) (lent bor mv : List Nat) (h' : List AO) : AS :=
 let g := AS.um (gone lent bor mv)
 ⟨σ.n, fun i => (σ.l i).scrub g,
  (List.range σ.h.length).map (fun k => match pos lent k with
   | some j => bkO lent σ.h.length (h'.getD j .dead)
   | none => bif bor.contains k then .dead else (σ.h.getD k .dead).scrub g) ++ (h'.drop lent.length).map (bkO lent σ.h.length),
  gone lent bor mv ++ σ.m, σ.e⟩

section
variable {P : Program} {τ : Tys} {C : Ctx} {w w' : World} {own own' : Own} {hd hd' : Hd} {σ : AS} {a : Act} {lent bor mv : List Nat}

theorem pos_get : ∀ {l : List Nat} {k j : Nat}, pos l k = some j → l[j]? = some k
 | [], k, j, h => by cases h
 | i :: r, k, j, h => by
  simp only [pos] at h
  cases hb : Nat.beq i k with
  | true => rw [hb, cond_true] at h; cases h; rw [Nat.eq_of_beq_eq_true hb]; rfl
  | false =>
   rw [hb, cond_false] at h
   split at h
   ·rename_i q hq
    cases h
    show r[q]? = some k
    exact pos_get hq
   ·cases h
theorem nd_pos {n : Nat} : ∀ {l : List Nat}, nd n l = true → ∀ {j k : Nat}, l[j]? = some k → pos l k = some j ∧ k < n
 | [], _, j, k, h => by simp at h
 | i :: r, hn, j, k, h => by
  simp only [nd, Bool.and_eq_true] at hn
  cases j with
  | zero => obtain rfl := Option.some.inj h; exact ⟨by simp [pos], Nat.blt_eq.mp hn.1.1⟩
  | succ j =>
   obtain ⟨h1, h2⟩ := nd_pos hn.2 (show r[j]? = some k from h)
   refine ⟨?_, h2⟩
   simp only [pos]
   cases hb : Nat.beq i k with
   | true =>
    obtain rfl := Nat.eq_of_beq_eq_true hb
    have := hn.1.2
    rw [h1] at this; cases this
   | false => rw [cond_false, h1]
theorem nd_lt {n : Nat} {l : List Nat} (h : nd n l = true) {k j : Nat} (hp : pos l k = some j) : k < n := (nd_pos h (pos_get hp)).2

def ownC (own : Own) (lent bor : List Nat) : Own := fun b => match own b with
 | some (some (k, s)) => match pos lent k with
  | some j => ow (j, s)
  | none => bif bor.contains k then none else ext
 | some none => ext
 | none => none
def hdC (hd : Hd) (lent : List Nat) : Hd := fun r => hd (lent.getD r.1 0, r.2)

theorem ownC_none {b : Nat} (h : own b = none) : ownC own lent bor b = none := by unfold ownC; rw [h]
theorem ownC_ext {b : Nat} (h : own b = ext) : ownC own lent bor b = ext := by unfold ownC; rw [h]
theorem ownC_lent {b k j : Nat} {s : Option Nat} (h : own b = ow (k, s)) (hp : pos lent k = some j) : ownC own lent bor b = ow (j, s) := by unfold ownC; rw [h]; simp only [hp]
theorem ownC_bor {b k : Nat} {s : Option Nat} (h : own b = ow (k, s)) (hp : pos lent k = none) (hb : bor.contains k = true) : ownC own lent bor b = none := by unfold ownC; rw [h]; simp only [hp, hb, cond_true]
theorem ownC_oth {b k : Nat} {s : Option Nat} (h : own b = ow (k, s)) (hp : pos lent k = none) (hb : bor.contains k = false) : ownC own lent bor b = ext := by unfold ownC; rw [h]; simp only [hp, hb, cond_false]
theorem ownC_some {b j : Nat} {s : Option Nat} (h : ownC own lent bor b = ow (j, s)) : ∃ k, own b = ow (k, s) ∧ pos lent k = some j := by
 unfold ownC at h
 split at h
 ·rename_i k s' e
  split at h
  ·rename_i i hi; cases h; exact ⟨k, e, hi⟩
  ·cases hb : bor.contains k with
   | true => rw [hb] at h; cases h
   | false => rw [hb] at h; cases h
 ·cases h
 ·cases h
theorem ownC_ext' {b : Nat} (h : ownC own lent bor b = ext) : own b = ext ∨ ∃ k s, own b = ow (k, s) ∧ pos lent k = none ∧ bor.contains k = false := by
 unfold ownC at h
 split at h
 ·rename_i k s' e
  split at h
  ·cases h
  ·rename_i hp
   cases hb : bor.contains k with
   | true => rw [hb] at h; cases h
   | false => exact .inr ⟨k, s', e, hp, hb⟩
 ·rename_i e; exact .inl e
 ·cases h
theorem KeepC (w : World) (own : Own) (lent bor : List Nat) : Keep w own w (ownC own lent bor) := ⟨Nat.le_refl _, fun _ _ h => ⟨rfl, ownC_none h⟩⟩
theorem hdC_pos {k j : Nat} {s : Option Nat} (hp : pos lent k = some j) : hdC hd lent (j, s) = hd (k, s) := by
 unfold hdC; simp only [List.getD_eq_getElem?_getD, pos_get hp, Option.getD_some]

theorem rfC {k j z off n : Nat} {s : Option Nat} {v : Value} (hp : pos lent k = some j) (h : VR w own hd (.rf (k, s) z off n) v) : VR w (ownC own lent bor) (hdC hd lent) (.rf (j, s) z off n) v := by
 cases h with
 | rf h1 h2 =>
  refine .rf h1 (fun hc => ?_)
  obtain ⟨p, e1, e2, e3, e4⟩ := h2 hc
  exact ⟨p, by rw [hdC_pos hp]; exact e1, ownC_lent e2 hp, by rw [hdC_pos hp]; exact e3, e4⟩
theorem ptC {k j off : Nat} {v : Value} (hp : pos lent k = some j) (h : VR w own hd (.pt k off) v) : VR w (ownC own lent bor) (hdC hd lent) (.pt j off) v := by
 cases h with | pt h1 h2 => exact .pt (by rw [hdC_pos hp]; exact h1) (ownC_lent h2 hp)
theorem peC {k j z i off : Nat} {s : Option Nat} {v : Value} (hp : pos lent k = some j) (h : VR w own hd (.pe (k, s) z i off) v) : VR w (ownC own lent bor) (hdC hd lent) (.pe (j, s) z i off) v := by
 cases h with | pe h1 h2 => exact .pe (by rw [hdC_pos hp]; exact h1) (ownC_lent h2 hp)
theorem mpC {k j : Nat} {v : Value} (hp : pos lent k = some j) (h : VR w own hd (.mp k) v) : VR w (ownC own lent bor) (hdC hd lent) (.mp j) v := by
 cases h with | mp h1 h2 => exact .mp (by rw [hdC_pos hp]; exact h1) (ownC_lent h2 hp)
theorem pTC {el : List T} {off : Nat} {v : Value} (h : VR w own hd (.pT el off) v) : VR w (ownC own lent bor) (hdC hd lent) (.pT el off) v := by
 cases h with | pT ho hb hc hv => exact VR.pT' (KeepC w own lent bor) ho hb hc hv
theorem fnC {f : Nat} {v : Value} (h : VR w own hd (.fn f []) v) : VR w own' hd' (.fn f []) v := by
 cases h with | fn h1 h2 => exact .fn h1 (fun i x v hx => by simp at hx)

theorem cl0_ok {x : AV} {v : Value} (h : VR w own hd x v) : VR w (ownC own lent bor) (hdC hd lent) (cl0 lent x) v := by
 cases x with
 | rf r z off n =>
  obtain ⟨k, s⟩ := r
  simp only [cl0]
  cases hp : pos lent k with
  | some j => exact rfC hp h
  | none => exact .junk
 | pt k off =>
  simp only [cl0]
  cases hp : pos lent k with
  | some j => exact ptC hp h
  | none => exact .junk
 | pe r z i off =>
  obtain ⟨k, s⟩ := r
  simp only [cl0]
  cases hp : pos lent k with
  | some j => exact peC hp h
  | none => exact .junk
 | mp k =>
  simp only [cl0]
  cases hp : pos lent k with
  | some j => exact mpC hp h
  | none => exact .junk
 | nl => cases h with | nl => exact .nl
 | t x => exact .t (h.t'.keep (KeepC w own lent bor))
 | pT el off => exact pTC h
 | fn f cs => cases cs with
  | nil => exact fnC h
  | cons c r => exact .junk
 | _ => exact .junk

theorem cv0_ok {h : List AO} (hrel : Rel own hd h w) {x : AV} {v : Value} (hx : VR w own hd x v) (hP : cvP0 h lent x) : VR w (ownC own lent bor) (hdC hd lent) (cv0 h lent bor x) v := by
 cases x with
 | rf r z off n =>
  obtain ⟨k, s⟩ := r
  simp only [cv0]
  simp only [cvP0] at hP
  cases hp : pos lent k with
  | some j => exact rfC hp hx
  | none =>
   simp only [hp] at hP
   cases hb : bor.contains k with
   | false => exact .junk
   | true =>
    simp only [cond_true]
    split
    ·rename_i s' els hk
     cases hz : Nat.beq s' z with
     | false => exact .junk
     | true =>
      obtain rfl := Nat.eq_of_beq_eq_true hz
      simp only [cond_true]
      simp only [hk] at hP
      obtain ⟨r1, r0, r2, r3, r4, r9, r5, r6⟩ := hrel.obj k _ hk
      have hl : ((els.drop off).take n).length = n := by rw [List.length_take, List.length_drop]; omega
      have get : ∀ (i : Nat) (el : List T), ((els.drop off).take n)[i]? = some el → els[off + i]? = some el := fun i el hi => by
       have := (take_get hi).2
       rwa [List.getElem?_drop] at this
      cases hx with
      | @rf _ _ _ _ c ad h1 h2 =>
       by_cases hc : c = 0
       ·subst hc
        obtain rfl : n = 0 := by omega
        rw [List.take_zero]; exact .t .nil
       ·obtain ⟨p, e1, e2, e3, rfl⟩ := h2 hc
        have hcell : ∀ (i : Nat) (el : List T) (j : Nat) (t : T), ((els.drop off).take n)[i]? = some el → el[j]? = some t → ∃ v, w.cell? ⟨p.1, p.2 + off * s' + (i * s' + j), none⟩ = some v ∧ TV w own t v := fun i el j t hi hj => by
         obtain ⟨v, f1, f2⟩ := r6 p _ el j t e1 (get i el hi) hj
         exact ⟨v, by rw [← f1]; congr 2; rw [Nat.add_mul]; omega, f2⟩
        have key : TV w (ownC own lent bor) (.sl ((els.drop off).take n)) (.slice (some ⟨p.1, p.2 + off * s', none⟩) ((els.drop off).take n).length c) := by
         refine .sl (s := s') (ownC_bor e2 hp hb) (hrel.dom _ _ e2).1 (by rw [hl]; exact h1) (by rw [hl]; omega) (fun i el hi => r1 _ _ (get i el hi)) (fun i el j t hi hj => ?_) (fun i el j t v hi hj hc' => ?_) (.inl (r9 p e1)) (fun j hj => by
          have hm := Nat.mul_le_mul_right s' e3
          rw [Nat.add_mul] at hm
          have := (r5 p e1 (off * s' + j) (by omega)).1
          rwa [← Nat.add_assoc] at this)
         ·obtain ⟨v, f1, _⟩ := hcell i el j t hi hj
          rw [f1]; rfl
         ·obtain ⟨v', f1, f2⟩ := hcell i el j t hi hj
          rw [f1] at hc'
          exact Option.some.inj hc' ▸ f2.keep (KeepC w own lent bor)
        rw [hl] at key
        exact .t key
    ·rename_i z' s' els hk
     cases hz : Nat.beq z' z with
     | false => exact .junk
     | true =>
      obtain rfl := Nat.eq_of_beq_eq_true hz
      simp only [cond_true]
      simp only [hk] at hP
      obtain ⟨r0, r2, r3, r4, r9, r5, rl, r6, r7, r8⟩ := hrel.obj k _ hk
      have hl : (((els.map nestT).drop off).take n).length = n := by rw [List.length_take, List.length_drop, List.length_map]; omega
      have get : ∀ (i : Nat) (el : List T), (((els.map nestT).drop off).take n)[i]? = some el → ∃ pre inner, els[off + i]? = some (pre, inner) ∧ el = pre ++ [.sl inner] := fun i el hi => by
       have := (take_get hi).2
       rw [List.getElem?_drop] at this
       obtain ⟨⟨pre, inner⟩, h1, h2⟩ := getElem?_map_some this
       exact ⟨pre, inner, h1, h2⟩
      cases hx with
      | @rf _ _ _ _ c ad h1 h2 =>
       by_cases hc : c = 0
       ·subst hc
        obtain rfl : n = 0 := by omega
        rw [List.take_zero]; exact .t .nil
       ·obtain ⟨p, e1, e2, e3, rfl⟩ := h2 hc
        have hcell : ∀ (i : Nat) (el : List T) (j : Nat) (t : T), (((els.map nestT).drop off).take n)[i]? = some el → el[j]? = some t → ∃ v, w.cell? ⟨p.1, p.2 + off * z' + (i * z' + j), none⟩ = some v ∧ TV w (ownC own lent bor) t v := fun i el j t hi hj => by
         obtain ⟨pre, inner, g1, rfl⟩ := get i el hi
         by_cases hjp : j < pre.length
         ·rw [List.getElem?_append_left hjp] at hj
          obtain ⟨v, f1, f2⟩ := r6 p _ pre inner j t e1 g1 hj
          exact ⟨v, by rw [← f1]; congr 2; rw [Nat.add_mul]; omega, f2.keep (KeepC w own lent bor)⟩
         ·have hj0 : j = pre.length := by have := (List.getElem?_eq_some_iff.1 hj).1; simp at this; omega
          subst hj0
          rw [List.getElem?_append_right (Nat.le_refl _), Nat.sub_self] at hj
          obtain rfl := Option.some.inj hj
          obtain ⟨v, f1, ⟨a, c', rfl⟩, f2⟩ := r7 p _ pre inner e1 g1
          refine ⟨_, by rw [← f1]; congr 2; rw [Nat.add_mul]; omega, ?_⟩
          rcases Nat.eq_zero_or_pos inner.length with h0 | h0
          ·obtain rfl := List.eq_nil_of_length_eq_zero h0
           exact .nil
          ·cases f2 h0 with
           | rf q1 q2 =>
            obtain ⟨p2, t1, t2, t3, rfl⟩ := q2 (by omega)
            obtain ⟨u1, u0, u2, u3, u4, u9, u5, u6⟩ := r8 _ pre inner g1
            refine .sl (s := s') (ownC_bor t2 hp hb) (hrel.dom _ _ t2).1 q1 u0 u1 (fun i el j t hi hj => ?_) (fun i el j t v hi hj hc' => ?_) (.inl (u9 p2 t1)) (fun j hj => by
             rw [Nat.zero_mul, Nat.add_zero]
             exact (u5 p2 t1 j (by rw [Nat.zero_add] at t3; have := Nat.mul_le_mul_right s' t3; omega)).1)
            ·obtain ⟨v, f1, _⟩ := u6 p2 i el j t t1 hi hj
             rw [Nat.zero_mul, Nat.add_zero, f1]; rfl
            ·obtain ⟨v', f1, f2⟩ := u6 p2 i el j t t1 hi hj
             rw [Nat.zero_mul, Nat.add_zero, f1] at hc'
             exact Option.some.inj hc' ▸ f2.keep (KeepC w own lent bor)
        have key : TV w (ownC own lent bor) (.sl (((els.map nestT).drop off).take n)) (.slice (some ⟨p.1, p.2 + off * z', none⟩) (((els.map nestT).drop off).take n).length c) := by
         refine .sl (s := z') (ownC_bor e2 hp hb) (hrel.dom _ _ e2).1 (by rw [hl]; exact h1) (by rw [hl]; omega) (fun i el hi => by obtain ⟨pre, inner, g1, rfl⟩ := get i el hi; rw [List.length_append]; exact rl _ _ _ g1) (fun i el j t hi hj => ?_) (fun i el j t v hi hj hc' => ?_) (.inl (r9 p e1)) (fun j hj => by
          have hm := Nat.mul_le_mul_right z' e3
          rw [Nat.add_mul] at hm
          have := (r5 p e1 (off * z' + j) (by omega)).1
          rwa [← Nat.add_assoc] at this)
         ·obtain ⟨v, f1, _⟩ := hcell i el j t hi hj
          rw [f1]; rfl
         ·obtain ⟨v', f1, f2⟩ := hcell i el j t hi hj
          rw [f1] at hc'
          exact Option.some.inj hc' ▸ f2
        rw [hl] at key
        exact .t key
    ·exact .junk
 | pt k off =>
  simp only [cv0]
  cases hp : pos lent k with
  | some j => exact ptC hp hx
  | none =>
   cases hb : bor.contains k with
   | false => exact .junk
   | true =>
    simp only [cond_true]
    split
    ·rename_i cs hk
     split
     ·rename_i ts hts
      obtain ⟨q, g1, g2, g3, g4⟩ := hrel.obj k _ hk
      obtain ⟨t1, t2⟩ := toTs_get hts
      cases hx with
      | @pt _ _ p h1 h2 =>
       obtain rfl : p = q := Option.some.inj (h1.symm.trans g1)
       have hcell : ∀ (j : Nat) (t : T), ts[j]? = some t → ∃ v, w.cell? ⟨p.1, p.2 + j, none⟩ = some v ∧ TV w own t v := fun j t hj => by
        rcases t2 j t hj with h3 | ⟨h3, rfl⟩
        ·obtain ⟨v, f1, f2, _⟩ := g4 j _ h3; exact ⟨v, f1, f2.t'⟩
        ·obtain ⟨v, f1, f2, _⟩ := g4 j _ h3
         refine ⟨v, f1, ?_⟩
         cases f2 with | nl => exact .nil
       refine .pT (ownC_bor h2 hp hb) (hrel.dom _ _ h2).1 (fun j t hj => ?_) (fun j t v hj hc => ?_)
       ·obtain ⟨v, f1, _⟩ := hcell j t hj; rw [f1]; rfl
       ·obtain ⟨v', f1, f2⟩ := hcell j t hj
        rw [f1] at hc
        exact Option.some.inj hc ▸ f2.keep (KeepC w own lent bor)
     ·exact .junk
    ·exact .junk
 | pe r z i off =>
  obtain ⟨k, s⟩ := r
  simp only [cv0]
  cases hp : pos lent k with
  | some j => exact peC hp hx
  | none => exact .junk
 | mp k =>
  simp only [cv0]
  cases hp : pos lent k with
  | some j => exact mpC hp hx
  | none => exact .junk
 | nl => cases hx with | nl => exact .t .nil
 | t x => exact .t (hx.t'.keep (KeepC w own lent bor))
 | pT el off => exact pTC hx
 | fn f cs => cases cs with
  | nil => exact fnC hx
  | cons c r => exact .junk
 | _ => exact .junk

theorem cvPL_get {h : List AO} : ∀ {cs : List AV}, cvPL h lent cs → ∀ {i : Nat} {x : AV}, cs[i]? = some x → cvP0 h lent x
 | [], _, i, x, hx => by simp at hx
 | c :: r, hP, i, x, hx => by
  cases i with
  | zero => obtain rfl := Option.some.inj hx; exact hP.1
  | succ i => exact cvPL_get hP.2 hx

theorem cv1_ok {h : List AO} (hrel : Rel own hd h w) : ∀ (xs : List AV) (vs : List Value), vs.length = xs.length → (∀ (i : Nat) (x : AV) (v : Value), xs[i]? = some x → vs[i]? = some v → VR w own hd x v) → cvP1 h lent xs →
 ∀ (i : Nat) (y : AV) (v : Value), (xs.map (cv1 h lent bor))[i]? = some y → vs[i]? = some v → VR w (ownC own lent bor) (hdC hd lent) y v
 | [], _, _, _, _, i, y, v, hy, _ => by simp at hy
 | x :: xs, [], hl, _, _, _, _, _, _, _ => by simp at hl
 | x :: xs, u :: vs, hl, hv, hP, 0, y, v, hy, hu => by
  obtain rfl := Option.some.inj hu
  obtain rfl : cv1 h lent bor x = y := Option.some.inj hy
  have hx := hv 0 x u rfl rfl
  cases x with
  | agg cs => cases hx with
   | agg g1 g2 => exact .agg (by simpa using g1) (fun i z v hz hv => by obtain ⟨z', h1, rfl⟩ := getElem?_map_some hz; exact cv0_ok hrel (g2 i z' v h1 hv) (cvPL_get hP.1 h1))
  | fn f cs => cases hx with
   | fn g1 g2 => exact .fn (by simpa using g1) (fun i z v hz hv => by obtain ⟨z', h1, rfl⟩ := getElem?_map_some hz; exact cv0_ok hrel (g2 i z' v h1 hv) (cvPL_get hP.1 h1))
  | _ => exact cv0_ok hrel hx hP.1
 | x :: xs, u :: vs, hl, hv, hP, i + 1, y, v, hy, hu => by
  refine cv1_ok hrel xs vs (by simpa using hl) (fun i x v h1 h2 => hv (i + 1) x v h1 h2) ?_ i y v hy hu
  cases x <;> exact hP.2


theorem cv_ok {h : List AO} (hrel : Rel own hd h w) : ∀ (xs : List AV) (vs : List Value), vs.length = xs.length → (∀ (i : Nat) (x : AV) (v : Value), xs[i]? = some x → vs[i]? = some v → VR w own hd x v) → cvP h lent xs →
 ∀ (i : Nat) (y : AV) (v : Value), (xs.map (cv h lent bor))[i]? = some y → vs[i]? = some v → VR w (ownC own lent bor) (hdC hd lent) y v
 | [], _, _, _, _, i, y, v, hy, _ => by simp at hy
 | x :: xs, [], hl, _, _, _, _, _, _, _ => by simp at hl
 | x :: xs, u :: vs, hl, hv, hP, 0, y, v, hy, hu => by
  obtain rfl := Option.some.inj hu
  obtain rfl : cv h lent bor x = y := Option.some.inj hy
  have hx := hv 0 x u rfl rfl
  cases x with
  | tup cs => cases hx with
   | @tup _ us g1 g2 => exact .tup (by simpa using g1) (fun i z v hz hv => cv1_ok hrel cs us.toList (by simpa using g1) (fun i x v h1 h2 => g2 i x v h1 (by simpa using h2)) hP.1 i z v hz (by simpa using hv))
  | agg cs => cases hx with
   | agg g1 g2 => exact .agg (by simpa using g1) (fun i z v hz hv => by obtain ⟨z', h1, rfl⟩ := getElem?_map_some hz; exact cv0_ok hrel (g2 i z' v h1 hv) (cvPL_get hP.1 h1))
  | fn f cs => cases hx with
   | fn g1 g2 => exact .fn (by simpa using g1) (fun i z v hz hv => by obtain ⟨z', h1, rfl⟩ := getElem?_map_some hz; exact cv0_ok hrel (g2 i z' v h1 hv) (cvPL_get hP.1 h1))
  | _ => exact cv0_ok hrel hx hP.1
 | x :: xs, u :: vs, hl, hv, hP, i + 1, y, v, hy, hu => by
  refine cv_ok hrel xs vs (by simpa using hl) (fun i x v h1 h2 => hv (i + 1) x v h1 h2) ?_ i y v hy hu
  cases x <;> exact hP.2


def ownB (own own' : Own) (lent : List Nat) (L : Nat) : Own := fun b => match own' b with
 | some (some (j, s)) => ow (bk lent L j, s)
 | some none => own b
 | none => none
def unb (lent : List Nat) (L k : Nat) : Option Nat := match pos lent k with
 | some j => some j
 | none => if L ≤ k then some (k - L + lent.length) else none
def hdB (hd hd' : Hd) (lent : List Nat) (L : Nat) : Hd := fun r => match unb lent L r.1 with
 | some j => hd' (j, r.2)
 | none => hd r

theorem unb_bk {L : Nat} (hn : nd L lent = true) (j : Nat) : unb lent L (bk lent L j) = some j := by
 unfold unb bk
 cases hj : lent[j]? with
 | some k => simp only; rw [(nd_pos hn hj).1]
 | none =>
  simp only
  cases hp : pos lent (L + (j - lent.length)) with
  | some i => have := nd_lt hn hp; omega
  | none =>
   simp only
   rw [if_pos (by omega)]
   have : lent.length ≤ j := by
    rcases Nat.lt_or_ge j lent.length with h | h
    ·rw [List.getElem?_eq_getElem h] at hj; cases hj
    ·exact h
   congr 1; omega
theorem hdB_bk {L : Nat} (hn : nd L lent = true) (j : Nat) (s : Option Nat) : hdB hd hd' lent L (bk lent L j, s) = hd' (j, s) := by
 unfold hdB; simp only [unb_bk hn]
theorem ownB_of {b j : Nat} {s : Option Nat} {L : Nat} (h : own' b = ow (j, s)) : ownB own own' lent L b = ow (bk lent L j, s) := by unfold ownB; rw [h]
theorem ownB_none {b L : Nat} (h : own' b = none) : ownB own own' lent L b = none := by unfold ownB; rw [h]
theorem ownB_ext {b L : Nat} (h : own' b = ext) : ownB own own' lent L b = own b := by unfold ownB; rw [h]
theorem KeepB (w : World) (own own' : Own) (lent : List Nat) (L : Nat) : Keep w own' w (ownB own own' lent L) := ⟨Nat.le_refl _, fun _ _ h => ⟨rfl, ownB_none h⟩⟩

theorem bk0_ok {L : Nat} (hn : nd L lent = true) {x : AV} {v : Value} (h : VR w own' hd' x v) : VR w (ownB own own' lent L) (hdB hd hd' lent L) (bk0 lent L x) v := by
 cases h with
 | @rf r z off n c ad h1 h2 =>
  obtain ⟨j, s⟩ := r
  refine .rf h1 (fun hc => ?_)
  obtain ⟨p, e1, e2, e3, e4⟩ := h2 hc
  exact ⟨p, by rw [hdB_bk hn]; exact e1, ownB_of e2, by rw [hdB_bk hn]; exact e3, e4⟩
 | pt h1 h2 => exact .pt (by rw [hdB_bk hn]; exact h1) (ownB_of h2)
 | @pe r z i off p h1 h2 =>
  obtain ⟨j, s⟩ := r
  exact .pe (by rw [hdB_bk hn]; exact h1) (ownB_of h2)
 | mp h1 h2 => exact .mp (by rw [hdB_bk hn]; exact h1) (ownB_of h2)
 | nl => exact .nl
 | t h => exact .t (h.keep (KeepB w own own' lent L))
 | pT ho hb hc hv => exact VR.pT' (KeepB w own own' lent L) ho hb hc hv
 | @fn f cap vs h1 h2 =>
  cases cap with
  | nil => exact .fn h1 (fun i x v hx => by simp at hx)
  | cons c r => exact .junk
 | _ => exact .junk
theorem bk1_ok {L : Nat} (hn : nd L lent = true) {x : AV} {v : Value} (h : VR w own' hd' x v) : VR w (ownB own own' lent L) (hdB hd hd' lent L) (bk1 lent L x) v := by
 cases x with
 | agg cs => cases h with
  | agg g1 g2 => exact .agg (by simpa using g1) (fun i z v hz hv => by obtain ⟨z', h1, rfl⟩ := getElem?_map_some hz; exact bk0_ok hn (g2 i z' v h1 hv))
 | _ => exact bk0_ok hn h
theorem bk2_ok {L : Nat} (hn : nd L lent = true) {x : AV} {v : Value} (h : VR w own' hd' x v) : VR w (ownB own own' lent L) (hdB hd hd' lent L) (bk2 lent L x) v := by
 cases x with
 | tup cs => cases h with
  | tup g1 g2 => exact .tup (by simpa using g1) (fun i z v hz hv => by obtain ⟨z', h1, rfl⟩ := getElem?_map_some hz; exact bk1_ok hn (g2 i z' v h1 hv))
 | _ => exact bk1_ok hn h

theorem bkO_ok {L j : Nat} (hn : nd L lent = true) {o : AO} (h : ObjAt w own' hd' j o) : ObjAt w (ownB own own' lent L) (hdB hd hd' lent L) (bk lent L j) (bkO lent L o) := by
 cases o with
 | dead => trivial
 | st cs =>
  obtain ⟨q, h1, h2, h3, h4⟩ := h
  refine ⟨q, by rw [hdB_bk hn]; exact h1, ownB_of h2, by rw [List.length_map]; exact h3, fun i x hx => ?_⟩
  obtain ⟨y, hy, rfl⟩ := getElem?_map_some hx
  obtain ⟨v, e1, e2, e3⟩ := h4 i y hy
  exact ⟨v, e1, bk0_ok hn e2, e3⟩
 | row s els =>
  obtain ⟨h1, h0, h2, h3, h4, h9, h5, h6⟩ := h
  refine ⟨h1, h0, by rw [hdB_bk hn]; exact h2, by rw [hdB_bk hn]; exact h3, fun q hq => ?_, (fun q hq => by rw [hdB_bk hn] at hq; exact h9 q hq), fun q hq => ?_, fun q i el jj t hq he hj => ?_⟩
  ·rw [hdB_bk hn] at hq; exact ownB_of (h4 q hq)
  ·rw [hdB_bk hn] at hq ⊢; exact h5 q hq
  ·rw [hdB_bk hn] at hq
   obtain ⟨v, f1, f2⟩ := h6 q i el jj t hq he hj
   exact ⟨v, f1, f2.keep (KeepB w own own' lent L)⟩
 | nest z s els => exact NestAt.to h (KeepB w own own' lent L) (fun s => hdB_bk hn j s) (fun b s ho => ⟨rfl, ownB_of ho⟩)

theorem clO_ok {k j : Nat} {o : AO} (hp : pos lent k = some j) (h : ObjAt w own hd k o) : ObjAt w (ownC own lent bor) (hdC hd lent) j (clO lent o) := by
 cases o with
 | dead => trivial
 | st cs =>
  obtain ⟨q, h1, h2, h3, h4⟩ := h
  refine ⟨q, by rw [hdC_pos hp]; exact h1, ownC_lent h2 hp, by rw [List.length_map]; exact h3, fun i x hx => ?_⟩
  obtain ⟨y, hy, rfl⟩ := getElem?_map_some hx
  obtain ⟨v, e1, e2, e3⟩ := h4 i y hy
  exact ⟨v, e1, cl0_ok e2, e3⟩
 | row s els =>
  obtain ⟨h1, h0, h2, h3, h4, h9, h5, h6⟩ := h
  refine ⟨h1, h0, by rw [hdC_pos hp]; exact h2, by rw [hdC_pos hp]; exact h3, fun q hq => ?_, (fun q hq => by rw [hdC_pos hp] at hq; exact h9 q hq), fun q hq => ?_, fun q i el jj t hq he hj => ?_⟩
  ·rw [hdC_pos hp] at hq; exact ownC_lent (h4 q hq) hp
  ·rw [hdC_pos hp] at hq ⊢; exact h5 q hq
  ·rw [hdC_pos hp] at hq
   obtain ⟨v, f1, f2⟩ := h6 q i el jj t hq he hj
   exact ⟨v, f1, f2.keep (KeepC w own lent bor)⟩
 | nest z s els => exact NestAt.to h (KeepC w own lent bor) (fun s => hdC_pos hp) (fun b s ho => ⟨rfl, ownC_lent ho hp⟩)

theorem um_gone {k : Nat} (h : AS.um (gone lent bor mv) k = true) : bor.contains k = false ∧ ∀ j, pos lent k = some j → AS.um mv j = true := by
 simp only [AS.um, gone, Bool.not_eq_true', List.contains_eq_mem, decide_eq_false_iff_not, List.mem_append, not_or] at h ⊢
 exact ⟨h.1, fun j hj hm => h.2 (List.mem_filterMap.2 ⟨j, hm, pos_get hj⟩)⟩

theorem CallV.of_M {f : FuncId} {xs : List AV} {K : AV → AS → Prop} (lent bor mv : List Nat) {hc : List AO} {xc : List AV} {Q : List AO → AV → Prop} (hM : M P f hc xc mv Q)
 (hn : nd σ.h.length lent = true) (hhc : lent.map (fun k => clO lent (σ.h.getD k .dead)) = hc) (hxc : xs.map (cv σ.h lent bor) = xc) (hp : cvP σ.h lent xs)
 (hK : ∀ h' r, Q h' r → (σ.after lent bor mv h').frc fun σ' => K (bk2 lent σ.h.length r) σ') : CallV P f xs σ K := by
 refine ⟨hM.1, fun C own hd a w h vs ha => ?_⟩
 generalize hL : σ.h.length = L at hn hK
 have hrc : Rel (ownC own lent bor) (hdC hd lent) hc w := by
  refine ⟨fun j o ho => ?_, fun b r hb => ?_, fun b hb => ?_⟩
  ·rw [← hhc] at ho
   obtain ⟨k, hk, rfl⟩ := getElem?_map_some ho
   obtain ⟨h1, h2⟩ := nd_pos hn hk
   have hkl : k < σ.h.length := by rw [hL]; exact h2
   refine clO_ok h1 (h.rel.obj k _ ?_)
   rw [List.getD_eq_getElem?_getD, List.getElem?_eq_getElem hkl]; rfl
  ·obtain ⟨j, s⟩ := r
   obtain ⟨k, h1, h2⟩ := ownC_some hb
   refine ⟨(h.rel.dom b _ h1).1, ?_⟩
   rw [← hhc, List.length_map]
   exact (List.getElem?_eq_some_iff.1 (pos_get h2)).1
  ·rcases ownC_ext' hb with e | ⟨k, s, e, _⟩
   ·exact h.rel.lt b e
   ·exact (h.rel.dom b _ e).1
 have hac : ArgsR w (ownC own lent bor) (hdC hd lent) xc vs := by
  rw [← hxc]
  refine ⟨by simpa using ha.1, fun i x v hx hv => ?_⟩
  exact cv_ok h.rel xs vs.toList (by simpa using ha.1) (fun i x v h1 h2 => ha.2 i x v h1 (by simpa using h2)) hp i x v hx (by simpa using hv)
 refine (hM.2 _ _ w vs hrc hac).mono fun e w' ⟨v, r, h', own', hd', he, hrel', hfr, hst, hvr, hq⟩ => ?_
 have hK' := AS.frc_iff.1 (hK h' r hq)
 have stand : ∀ b k s, own b = ow (k, s) → pos lent k = none → bor.contains k = false → w'.heap[b]? = w.heap[b]? ∧ own' b = ext := fun b k s hb h1 h2 => hfr.ex b (ownC_oth hb h1 h2)
 have hlt : ∀ k b s, own b = ow (k, s) → k < L := fun k b s hb => by have := (h.rel.dom b _ hb).2; rwa [hL] at this
 have keep : Keep w own w' (ownB own own' lent L) := ⟨hfr.size, fun b hb ho => by
  obtain ⟨e1, e2⟩ := hfr.blk b hb (ownC_none ho)
  exact ⟨e1, ownB_none e2⟩⟩
 have unbn : ∀ k, pos lent k = none → k < L → unb lent L k = none := fun k h1 h2 => by unfold unb; rw [h1]; exact if_neg (by omega)
 have bkp : ∀ k j, pos lent k = some j → bk lent L j = k := fun k j h1 => by unfold bk; rw [pos_get h1]
 have stay : Stay own hd (ownB own own' lent L) (hdB hd hd' lent L) (AS.um (gone lent bor mv)) := fun r b hr hb => by
  obtain ⟨k, s⟩ := r
  obtain ⟨g1, g2⟩ := um_gone hr
  cases hpk : pos lent k with
  | some j =>
   obtain ⟨e1, e2⟩ := hst (j, s) b (g2 j hpk) (ownC_lent hb hpk)
   have hb2 := bkp k j hpk
   refine ⟨?_, by rw [ownB_of e2, hb2]⟩
   rw [← hdC_pos (hd := hd) hpk, ← e1, ← hdB_bk (hd := hd) (hd' := hd') hn j s, hb2]
  | none =>
   obtain ⟨e1, e2⟩ := stand b k s hb hpk g1
   refine ⟨?_, by rw [ownB_ext e2]; exact hb⟩
   unfold hdB
   simp only [unbn k hpk (hlt k b s hb)]
 have fr2 : Fr w own w' (ownB own own' lent L) := ⟨hfr.os, hfr.tape, hfr.output, hfr.size, keep.blk, fun b ho => by
  obtain ⟨e1, e2⟩ := hfr.ex b (ownC_ext ho)
  exact ⟨e1, by rw [ownB_ext e2]; exact ho⟩, fun b ho => by
  unfold ownB at ho
  split at ho
  ·cases ho
  ·exact ho
  ·cases ho⟩
 have hlen : (σ.after lent bor mv h').h.length = L + (h'.length - lent.length) := by simp [AS.after, hL]
 refine ⟨v, bk2 lent L r, σ.after lent bor mv h', _, _, he, ⟨⟨fun k o hk => ?_, fun b r hb => ?_, fun b hb => ?_⟩, h.fr.trans fr2, h.stay.trans stay (fun i hi => ?_), fun i hi => by simp only [AS.after, List.contains_append, h.gr i hi, Bool.or_true], h.le, h.dfr, h.size, fun i hi => (h.slot i hi).keep keep stay⟩, bk2_ok (hd := hd) hn hvr, hK'⟩
 ·-- an object
  simp only [AS.after, hL] at hk
  rcases Nat.lt_or_ge k L with hkL | hkL
  ·rw [List.getElem?_append_left (by simpa using hkL)] at hk
   obtain ⟨k', hk', rfl⟩ := getElem?_map_some hk
   rw [List.getElem?_range hkL] at hk'
   obtain rfl := Option.some.inj hk'
   cases hpk : pos lent k with
   | some j =>
    simp only
    rw [List.getD_eq_getElem?_getD]
    cases hj : h'[j]? with
    | none => trivial
    | some o' =>
     have := bkO_ok (own := own) (hd := hd) hn (hrel'.obj j o' hj)
     rwa [bkp k j hpk] at this
   | none =>
    simp only
    cases hbk : bor.contains k with
    | true => trivial
    | false =>
     simp only [cond_false]
     have hkl : k < σ.h.length := by rw [hL]; exact hkL
     rw [List.getD_eq_getElem?_getD, List.getElem?_eq_getElem hkl]
     refine (h.rel.obj k _ (List.getElem?_eq_getElem hkl)).keep keep stay (fun s => ?_) (fun b s hb => ?_)
     ·unfold hdB; simp only [unbn k hpk hkL]
     ·obtain ⟨e1, e2⟩ := stand b k s hb hpk hbk
      exact ⟨e1, by rw [ownB_ext e2]⟩
  ·rw [List.getElem?_append_right (by simpa using hkL)] at hk
   simp only [List.length_map, List.length_range] at hk
   obtain ⟨o', ho', rfl⟩ := getElem?_map_some hk
   rw [List.getElem?_drop] at ho'
   have := bkO_ok (own := own) (hd := hd) hn (hrel'.obj _ o' ho')
   have hbk : bk lent L (lent.length + (k - L)) = k := by
    unfold bk
    rw [List.getElem?_eq_none (by omega)]
    show L + (lent.length + (k - L) - lent.length) = k
    omega
   rwa [hbk] at this
 ·-- the owners
  rw [hlen]
  cases hq' : own' b with
  | none => rw [ownB_none hq'] at hb; cases hb
  | some q =>
   cases q with
   | none =>
    rw [ownB_ext hq'] at hb
    have := h.rel.dom b r hb
    exact ⟨Nat.lt_of_lt_of_le this.1 hfr.size, by rw [hL] at this; omega⟩
   | some q =>
    obtain ⟨j, s⟩ := q
    rw [ownB_of (j := j) (s := s) hq'] at hb
    have e := Option.some.inj (Option.some.inj hb)
    have := hrel'.dom b (j, s) hq'
    refine ⟨this.1, ?_⟩
    rw [← e]
    show bk lent L j < _
    unfold bk
    cases hj : lent[j]? with
    | some k => have := (nd_pos hn hj).2; simp only; omega
    | none =>
     have hjl : lent.length ≤ j := by
      rcases Nat.lt_or_ge j lent.length with h1 | h1
      ·rw [List.getElem?_eq_getElem h1] at hj; cases hj
      ·exact h1
     have h3 : j < h'.length := this.2
     simp only; omega
 ·have : own b = ext := by
   unfold ownB at hb
   split at hb
   ·cases hb
   ·exact hb
   ·cases hb
  exact Nat.lt_of_lt_of_le (h.rel.lt b this) hfr.size
 ·simp only [Ctx.um, AS.um, AS.after, Bool.and_eq_true, Bool.not_eq_true', List.contains_eq_mem, decide_eq_false_iff_not, List.mem_append, not_or] at hi ⊢
  exact ⟨⟨hi.1, hi.2.2⟩, hi.2.1⟩

end
end Go.V
