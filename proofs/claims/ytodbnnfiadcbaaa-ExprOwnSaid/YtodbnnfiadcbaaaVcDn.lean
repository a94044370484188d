import Derived.Test.YtodbnnfiadcbaaaVcD
/- A row whose elements end by a row of their own: its inner rows are written, laid in. -/
set_option linter.unusedVariables false
set_option linter.unusedSimpArgs false
set_option linter.unusedSectionVars false
namespace Go.V
open Go.RowKit
variable [Wid]
section
variable {P : Program} {τ : Tys} {C : Ctx} {w w' : World} {own own' : Own} {hd hd' : Hd} {σ : AS} {a : Act}

theorem RowAt.store {r : Key} {s : Nat} {els : List (List T)} (h : RowAt w own hd r s els) {p : Nat × Nat} (hp : (hd r).1 = some p) {i off : Nat} {el ts : List T} {vs : List Value}
 (hel : els[i]? = some el) (hn : vs.length = ts.length) (hv : ∀ (j : Nat) (t : T) (v : Value), ts[j]? = some t → vs[j]? = some v → TV w own t v) (hle : off + ts.length ≤ s) :
 RowAt (w.setCells p.1 (p.2 + (i * s + off)) vs) own hd r s (els.set i (setAt el off ts)) := by
 obtain ⟨h1, h0, h2, h3, h4, h9, h5, h6⟩ := h
 have hown := h4 p hp
 have fr := Fr.setCells w own hown (p.2 + (i * s + off)) vs
 have hilt := (List.getElem?_eq_some_iff.1 hel).1
 have hels := h1 i el hel
 have hfit : (i + 1) * s ≤ (hd r).2 * s := Nat.mul_le_mul_right _ (by omega)
 rw [Nat.add_mul, Nat.one_mul] at hfit
 have len' : ∀ (i' : Nat) (el' : List T), (els.set i (setAt el off ts))[i']? = some el' → el'.length = s := fun i' el' he => by
  by_cases hi : i = i'
  ·subst hi; rw [List.getElem?_set_self hilt] at he; obtain rfl := Option.some.inj he; rw [setAt_length]; exact hels
  ·rw [List.getElem?_set_ne hi] at he; exact h1 _ _ he
 refine ⟨len', by rw [List.length_set]; exact h0, by rw [List.length_set]; exact h2, h3, h4, (fun q hq => set_pln _ _ (h9 q hq)), fun q hq => set_there (h5 q hq), fun q i' el' j t hq he hj => ?_⟩
 obtain rfl : p = q := Option.some.inj (hp.symm.trans hq)
 have hjs : j < s := by rw [← len' i' el' he]; exact (List.getElem?_eq_some_iff.1 hj).1
 rw [set_cell (h5 p hp) (i * s + off) (by omega)]
 by_cases hi : i = i'
 ·subst hi
  rw [List.getElem?_set_self hilt] at he
  obtain rfl := Option.some.inj he
  rw [setAt_get _ _ _ _ (by omega)] at hj
  by_cases hjo : off ≤ j ∧ j < off + ts.length
  ·rw [if_pos hjo] at hj
   rw [if_pos (by omega), show i * s + j - (i * s + off) = j - off by omega]
   have hlt : j - off < vs.length := by omega
   exact ⟨vs[j - off], List.getElem?_eq_getElem hlt, (hv _ t _ hj (List.getElem?_eq_getElem hlt)).keep fr.keep⟩
  ·rw [if_neg hjo] at hj
   rw [if_neg (by omega)]
   obtain ⟨v, e1, e2⟩ := h6 p i el j t hp hel hj
   exact ⟨v, e1, e2.keep fr.keep⟩
 ·rw [List.getElem?_set_ne hi] at he
  obtain ⟨v, e1, e2⟩ := h6 p i' el' j t hp he hj
  refine ⟨v, ?_, e2.keep fr.keep⟩
  rw [if_neg ?_]
  ·exact e1
  ·intro hh
   rcases Nat.lt_or_ge i i' with hlt | hge
   ·have : (i + 1) * s ≤ i' * s := Nat.mul_le_mul_right _ hlt
    rw [Nat.add_mul] at this; omega
   ·have : (i' + 1) * s ≤ i * s := Nat.mul_le_mul_right _ (by omega)
    rw [Nat.add_mul] at this; omega

theorem SX.store_sub (h : SX C own hd σ a w) {k z s : Nat} {els : List (List T × List (List T))} (hk : σ.h[k]? = some (.nest z s els)) {j : Nat} {pre : List T} {inner : List (List T)} (hj : els[j]? = some (pre, inner))
 {p : Nat × Nat} (hp : (hd (k, some j)).1 = some p) {i off : Nat} {el ts : List T} {vs : List Value}
 (hel : inner[i]? = some el) (hn : vs.length = ts.length) (hv : ∀ (j : Nat) (t : T) (v : Value), ts[j]? = some t → vs[j]? = some v → TV w own t v) (hle : off + ts.length ≤ s) :
 SX C own hd (σ.upd k (.nest z s (els.set j (pre, inner.set i (setAt el off ts))))) a (w.setCells p.1 (p.2 + (i * s + off)) vs) := by
 have hN := h.rel.obj k _ hk
 obtain ⟨h0, h2, h3, h4, h9, h5, hl, h6, h7, h8⟩ := hN
 have hR := h8 j pre inner hj
 have hown := hR.mine p hp
 have fr := Fr.setCells w own hown (p.2 + (i * s + off)) vs
 have hklt := (List.getElem?_eq_some_iff.1 hk).1
 have hjlt := (List.getElem?_eq_some_iff.1 hj).1
 have oth : ∀ b r, own b = ow r → r ≠ (k, some j) → (w.setCells p.1 (p.2 + (i * s + off)) vs).heap[b]? = w.heap[b]? := fun b r hb hr => setCells_other _ _ _ _ _ (fun e => by rw [e, hown] at hb; cases hb; exact hr rfl)
 refine h.step k fr (Stay.refl _ _) (fun _ _ _ _ => rfl) (fun b r hb hr => ⟨oth b r hb (fun e => hr (congrArg Prod.fst e)), rfl⟩) (fun j hj => by simp [Ne.symm hj]) (fun o ho => ?_) (fun b r hb => ?_) (fun b hb => by rw [setCells_size]; exact h.rel.lt b hb)
 ·rw [List.getElem?_set_self hklt] at ho
  obtain rfl := Option.some.inj ho
  have get : ∀ {i' : Nat} {pre' : List T} {inner' : List (List T)}, (els.set j (pre, inner.set i (setAt el off ts)))[i']? = some (pre', inner') →
   (i' = j ∧ pre' = pre ∧ inner' = inner.set i (setAt el off ts)) ∨ (i' ≠ j ∧ els[i']? = some (pre', inner')) := fun {i' pre' inner'} he => by
   by_cases hi : j = i'
   ·subst hi; rw [List.getElem?_set_self hjlt] at he; cases he; exact .inl ⟨rfl, rfl, rfl⟩
   ·rw [List.getElem?_set_ne hi] at he; exact .inr ⟨Ne.symm hi, he⟩
  have same : ∀ q : Nat × Nat, (hd (k, none)).1 = some q → ∀ o, (w.setCells p.1 (p.2 + (i * s + off)) vs).cell? ⟨q.1, o, none⟩ = w.cell? ⟨q.1, o, none⟩ := fun q hq o =>
   World.cell?_of_block (oth q.1 _ (h4 q hq) (fun e => by cases e))
  refine ⟨by rw [List.length_set]; exact h0, by rw [List.length_set]; exact h2, h3, h4, (fun q hq => set_pln _ _ (h9 q hq)), fun q hq => set_there (h5 q hq), fun i' pre' inner' he => ?_, fun q i' pre' inner' jj t hq he ht => ?_, fun q i' pre' inner' hq he => ?_, fun i' pre' inner' he => ?_⟩
  ·rcases get he with ⟨rfl, rfl, rfl⟩ | ⟨_, he⟩
   ·exact hl _ _ _ hj
   ·exact hl _ _ _ he
  ·rw [same q hq]
   rcases get he with ⟨rfl, rfl, rfl⟩ | ⟨_, he⟩
   ·obtain ⟨v, e1, e2⟩ := h6 q _ _ _ jj t hq hj ht; exact ⟨v, e1, e2.keep fr.keep⟩
   ·obtain ⟨v, e1, e2⟩ := h6 q _ _ _ jj t hq he ht; exact ⟨v, e1, e2.keep fr.keep⟩
  ·rw [same q hq]
   rcases get he with ⟨rfl, rfl, rfl⟩ | ⟨_, he⟩
   ·obtain ⟨v, e1, e2, e3⟩ := h7 q _ _ _ hq hj
    rw [List.length_set]
    exact ⟨v, e1, e2, fun hp => (e3 hp).same fr.keep (Stay.refl _ _)⟩
   ·obtain ⟨v, e1, e2, e3⟩ := h7 q _ _ _ hq he
    exact ⟨v, e1, e2, fun hp => (e3 hp).same fr.keep (Stay.refl _ _)⟩
  ·rcases get he with ⟨rfl, rfl, rfl⟩ | ⟨hne, he⟩
   ·exact hR.store hp hel hn hv hle
   ·exact (h8 _ _ _ he).to fr.keep rfl (fun b hb => ⟨oth b _ hb (fun e => by cases e; exact hne rfl), hb⟩)
 ·have := h.rel.dom b r hb
  exact ⟨by rw [setCells_size]; exact this.1, by rw [List.length_set]; exact this.2⟩

/-! ### What shows some keys no more -/
def AV.sk0 (q : Key → Bool) : AV → AV
 | .rf r z off n => bif q r then .rf r z off n else .junk
 | .pt k off => bif q (k, none) then .pt k off else .junk
 | .pe r z i off => bif q r then .pe r z i off else .junk
 | .mp k => bif q (k, none) then .mp k else .junk
 | .nl => .nl
 | .t x => .t x
 | .pT el off => .pT el off
 | _ => .junk
def AV.sk1 (q : Key → Bool) : AV → AV
 | .agg cs => .agg (cs.map (AV.sk0 q))
 | .fn f cs => .fn f (cs.map (AV.sk0 q))
 | x => x.sk0 q
def AV.sk (q : Key → Bool) : AV → AV
 | .tup cs => .tup (cs.map (AV.sk1 q))
 | x => x.sk1 q
def AO.sk (q : Key → Bool) : AO → AO
 | .st cs => .st (cs.map (AV.sk0 q))
 | o => o
def StayK (own : Own) (hd : Hd) (own' : Own) (hd' : Hd) (q : Key → Bool) : Prop := ∀ r b, q r = true → own b = ow r → hd' r = hd r ∧ own' b = ow r
theorem VR.sk0 {q : Key → Bool} (hk : Keep w own w' own') (hh : StayK own hd own' hd' q) {x : AV} {v : Value} (h : VR w own hd x v) : VR w' own' hd' (x.sk0 q) v := by
 cases h with
 | junk => exact .junk
 | nl => exact .nl
 | t h => exact .t (h.keep hk)
 | @rf r z off n c a h1 h2 =>
  cases hp : q r with
  | false => simp only [AV.sk0, hp, cond_false]; exact .junk
  | true =>
   simp only [AV.sk0, hp, cond_true]
   refine .rf h1 fun hc => ?_
   obtain ⟨p, e1, e2, e3, e4⟩ := h2 hc
   obtain ⟨f1, f2⟩ := hh r _ hp e2
   exact ⟨p, by rw [f1]; exact e1, f2, by rw [f1]; exact e3, e4⟩
 | @pt k off p h1 h2 =>
  cases hp : q (k, none) with
  | false => simp only [AV.sk0, hp, cond_false]; exact .junk
  | true => simp only [AV.sk0, hp, cond_true]; obtain ⟨f1, f2⟩ := hh (k, none) _ hp h2; exact .pt (by rw [f1]; exact h1) f2
 | @pe r z i off p h1 h2 =>
  cases hp : q r with
  | false => simp only [AV.sk0, hp, cond_false]; exact .junk
  | true => simp only [AV.sk0, hp, cond_true]; obtain ⟨f1, f2⟩ := hh r _ hp h2; exact .pe (by rw [f1]; exact h1) f2
 | pT ho hb hc hv => exact VR.pT' hk ho hb hc hv
 | @mp k p h1 h2 =>
  cases hp : q (k, none) with
  | false => simp only [AV.sk0, hp, cond_false]; exact .junk
  | true => simp only [AV.sk0, hp, cond_true]; obtain ⟨f1, f2⟩ := hh (k, none) _ hp h2; exact .mp (by rw [f1]; exact h1) f2
 | fn => exact .junk
 | agg => exact .junk
 | tup => exact .junk
theorem VR.sk1 {q : Key → Bool} (hk : Keep w own w' own') (hh : StayK own hd own' hd' q) {x : AV} {v : Value} (h : VR w own hd x v) : VR w' own' hd' (x.sk1 q) v := by
 cases x with
 | agg cs => cases h with | agg h1 h2 => exact .agg (by simpa using h1) (fun i x v hx hv => by obtain ⟨y, hy, rfl⟩ := getElem?_map_some hx; exact (h2 i y v hy hv).sk0 hk hh)
 | fn f cs => cases h with | fn h1 h2 => exact .fn (by simpa using h1) (fun i x v hx hv => by obtain ⟨y, hy, rfl⟩ := getElem?_map_some hx; exact (h2 i y v hy hv).sk0 hk hh)
 | _ => exact VR.sk0 hk hh h
theorem VR.sk {q : Key → Bool} (hk : Keep w own w' own') (hh : StayK own hd own' hd' q) {x : AV} {v : Value} (h : VR w own hd x v) : VR w' own' hd' (x.sk q) v := by
 cases x with
 | tup cs => cases h with | tup h1 h2 => exact .tup (by simpa using h1) (fun i x v hx hv => by obtain ⟨y, hy, rfl⟩ := getElem?_map_some hx; exact (h2 i y v hy hv).sk1 hk hh)
 | _ => exact VR.sk1 hk hh h

def nkS (k j : Nat) : Key → Bool := fun r => !(Nat.beq r.1 j) && (r.2.isNone || !(Nat.beq r.1 k))
def AS.lay (σ : AS) (k j : Nat) (o : AO) : AS :=
 { n := σ.n, l := fun i => (σ.l i).sk (nkS k j), h := ((σ.h.map (AO.sk (nkS k j))).set j .dead).set k o, m := k :: j :: σ.m, e := σ.e }
theorem nkS_spec {k j : Nat} {r : Key} (h : nkS k j r = true) : r.1 ≠ j ∧ (r.2 = none ∨ r.1 ≠ k) := by
 simp only [nkS, Bool.and_eq_true, Bool.or_eq_true, Bool.not_eq_true'] at h
 refine ⟨fun e => by rw [e] at h; simp at h, h.2.imp (fun h => by cases hr : r.2 with
  | none => rfl
  | some x => rw [hr] at h; cases h) (fun h e => by rw [e] at h; simp at h)⟩
theorem SX.lay (h : SX C own hd σ a w) {k j z s : Nat} {els : List (List T × List (List T))} {els' : List (List T)} (hk : σ.h[k]? = some (.nest z s els)) (hj : σ.h[j]? = some (.row s els'))
 {i : Nat} {pre : List T} {inner : List (List T)} (hi : els[i]? = some (pre, inner)) {p : Nat × Nat} (hp : (hd (k, none)).1 = some p) {v : Value} (hv : VR w own hd (.rf (j, none) s 0 els'.length) v) (hn : 0 < els'.length) :
 ∃ own' hd', SX C own' hd' (σ.lay k j (.nest z s (els.set i (pre, els')))) a (w.setCells p.1 (p.2 + (i * z + pre.length)) [v]) := by
 have hkj : k ≠ j := fun e => by subst e; rw [hk] at hj; cases hj
 have hklt := (List.getElem?_eq_some_iff.1 hk).1
 have hjlt := (List.getElem?_eq_some_iff.1 hj).1
 have hilt := (List.getElem?_eq_some_iff.1 hi).1
 obtain ⟨h0, h2, h3, h4, h9, h5, hl, h6, h7, h8⟩ := h.rel.obj k _ hk
 have hR : RowAt w own hd (j, none) s els' := h.rel.obj j _ hj
 have hown := h4 p hp
 cases hv with
 | @rf _ _ _ _ c ad c1 c2 =>
 obtain ⟨q, d1, d2, d3, rfl⟩ := c2 (by omega)
 let own1 : Own := fun b => match own b with
  | some (some r) => if r.1 = j then (if r.2 = none then ow (k, some i) else none) else if r = (k, some i) then none else ow r
  | some none => ext
  | none => none
 let hd1 : Hd := fun r => if r = (k, some i) then hd (j, none) else hd r
 have on : ∀ {b}, own b = none → own1 b = none := fun {b} hb => by simp only [own1, hb]
 have oe : ∀ {b}, own b = ext → own1 b = ext := fun {b} hb => by simp only [own1, hb]
 have oj : ∀ {b}, own b = ow (j, none) → own1 b = ow (k, some i) := fun {b} hb => by simp only [own1, hb, if_true]
 have oo : ∀ {b r}, own b = ow r → r.1 ≠ j → r ≠ (k, some i) → own1 b = ow r := fun {b r} hb h1 h2 => by simp only [own1, hb, if_neg h1, if_neg h2]
 have back : ∀ {b r}, own1 b = ow r → (own b = ow (j, none) ∧ r = (k, some i)) ∨ (own b = ow r ∧ r.1 ≠ j ∧ r ≠ (k, some i)) := fun {b r} hb => by
  cases hq : own b with
  | none => rw [on hq] at hb; cases hb
  | some x =>
   cases x with
   | none => rw [oe hq] at hb; cases hb
   | some x =>
    obtain ⟨x1, x2⟩ := x
    simp only [own1, hq] at hb
    split at hb
    ·rename_i e
     split at hb
     ·rename_i e2; subst e; subst e2; cases hb; exact .inl ⟨rfl, rfl⟩
     ·cases hb
    ·rename_i e
     split at hb
     ·cases hb
     ·rename_i e2; cases hb; exact .inr ⟨rfl, e, e2⟩
 have backe : ∀ {b}, own1 b = ext → own b = ext := fun {b} hb => by
  cases hq : own b with
  | none => rw [on hq] at hb; cases hb
  | some x =>
   cases x with
   | none => rfl
   | some x =>
    simp only [own1, hq] at hb
    split at hb
    ·split at hb <;> cases hb
    ·split at hb <;> cases hb
 have hother : ∀ b r, own b = ow r → r ≠ (k, none) → (w.setCells p.1 (p.2 + (i * z + pre.length)) [.slice (some ⟨q.1, q.2 + 0 * s, none⟩) els'.length c]).heap[b]? = w.heap[b]? := fun b r hb hr =>
  setCells_other _ _ _ _ _ (fun e => by rw [e, hown] at hb; cases hb; exact hr rfl)
 have frc := Fr.setCells w own hown (p.2 + (i * z + pre.length)) [.slice (some ⟨q.1, q.2 + 0 * s, none⟩) els'.length c]
 generalize hw' : w.setCells p.1 (p.2 + (i * z + pre.length)) [.slice (some ⟨q.1, q.2 + 0 * s, none⟩) els'.length c] = w' at frc hother
 have fr : Fr w own w' own1 := ⟨frc.os, frc.tape, frc.output, frc.size, fun b hb ho => ⟨(frc.blk b hb ho).1, on ho⟩, fun b ho => ⟨(frc.ex b ho).1, oe ho⟩, fun b ho => backe ho⟩
 have st : StayK own hd own1 hd1 (nkS k j) := fun r b hr hb => by
  obtain ⟨g1, g2⟩ := nkS_spec hr
  have hne : r ≠ (k, some i) := fun e => by subst e; rcases g2 with g2 | g2 <;> simp at g2
  exact ⟨by simp only [hd1, if_neg hne], oo hb g1 hne⟩
 have size : w'.heap.size = w.heap.size := by rw [← hw', setCells_size]
 have stk : ∀ s', s' ≠ some i → hd1 (k, s') = hd (k, s') := fun s' hs => by simp only [hd1]; rw [if_neg (fun e => hs (Prod.mk.inj e).2)]
 have hfit : (i + 1) * z ≤ (hd (k, none)).2 * z := Nat.mul_le_mul_right _ (by omega)
 have hz := hl i pre inner hi
 rw [Nat.add_mul, Nat.one_mul] at hfit
 have get : ∀ {i' : Nat} {pre' : List T} {inner' : List (List T)}, (els.set i (pre, els'))[i']? = some (pre', inner') →
  (i' = i ∧ pre' = pre ∧ inner' = els') ∨ (i' ≠ i ∧ els[i']? = some (pre', inner')) := fun {i' pre' inner'} he => by
  by_cases hii : i = i'
  ·subst hii; rw [List.getElem?_set_self hilt] at he; cases he; exact .inl ⟨rfl, rfl, rfl⟩
  ·rw [List.getElem?_set_ne hii] at he; exact .inr ⟨Ne.symm hii, he⟩
 have cell : ∀ i' jj, (i' * z + jj) < (hd (k, none)).2 * z → w'.cell? ⟨p.1, p.2 + (i' * z + jj), none⟩ = if i * z + pre.length ≤ i' * z + jj ∧ i' * z + jj < i * z + pre.length + 1 then some (.slice (some ⟨q.1, q.2 + 0 * s, none⟩) els'.length c) else w.cell? ⟨p.1, p.2 + (i' * z + jj), none⟩ := fun i' jj hlt => by
  rw [← hw', set_cell (h5 p hp) (i * z + pre.length) (by simp only [List.length_cons, List.length_nil]; omega)]
  split
  ·rename_i hc
   rw [if_pos (by simpa using hc), show i' * z + jj - (i * z + pre.length) = 0 by simp at hc; omega]; rfl
  ·rename_i hc
   rw [if_neg (by simpa using hc)]
 have ltz : ∀ {i' : Nat} {pre' : List T} {inner' : List (List T)}, els[i']? = some (pre', inner') → (i' + 1) * z ≤ (hd (k, none)).2 * z := fun {i' pre' inner'} he => by
  have := (List.getElem?_eq_some_iff.1 he).1
  exact Nat.mul_le_mul_right _ (by omega)
 have apart : ∀ {i' jj : Nat}, i' ≠ i → jj < z → ¬ (i * z + pre.length ≤ i' * z + jj ∧ i' * z + jj < i * z + pre.length + 1) := fun {i' jj} hne hjj hh => by
  rcases Nat.lt_or_ge i i' with hlt | hge
  ·have : (i + 1) * z ≤ i' * z := Nat.mul_le_mul_right _ hlt
   rw [Nat.add_mul] at this; omega
  ·have : (i' + 1) * z ≤ i * z := Nat.mul_le_mul_right _ (by omega)
   rw [Nat.add_mul] at this; omega
 refine ⟨own1, hd1, ⟨fun m o hm => ?_, fun b r hb => ?_, fun b hb => ?_⟩, h.fr.trans fr, ?_, fun x hx => ?_, h.le, h.dfr, h.size, fun x hx => (h.slot x hx).sk fr.keep st⟩
 ·simp only [AS.lay] at hm
  by_cases hmk : m = k
  ·subst hmk
   rw [List.getElem?_set_self (by simpa using hklt)] at hm
   obtain rfl := Option.some.inj hm
   have e0 : hd1 (m, none) = hd (m, none) := stk none (by simp)
   refine ⟨by rw [List.length_set]; exact h0, by rw [List.length_set, e0]; exact h2, by rw [e0]; exact h3, fun q' hq => ?_, fun q' hq => ?_, fun q' hq => ?_, fun i' pre' inner' he => ?_, fun q' i' pre' inner' jj t hq he ht => ?_, fun q' i' pre' inner' hq he => ?_, fun i' pre' inner' he => ?_⟩
   ·rw [e0] at hq; exact oo (h4 q' hq) hkj (by simp)
   ·rw [e0] at hq; rw [← hw']; exact set_pln _ _ (h9 q' hq)
   ·rw [e0] at hq ⊢; rw [← hw']; exact set_there (h5 q' hq)
   ·rcases get he with ⟨rfl, rfl, rfl⟩ | ⟨_, he⟩
    ·exact hz
    ·exact hl _ _ _ he
   ·rw [e0] at hq
    obtain rfl : p = q' := Option.some.inj (hp.symm.trans hq)
    have hjj := (List.getElem?_eq_some_iff.1 ht).1
    rcases get he with ⟨rfl, rfl, rfl⟩ | ⟨hne, he⟩
    ·rw [cell _ _ (by omega), if_neg (by omega)]
     obtain ⟨v, e1, e2⟩ := h6 p _ _ _ jj t hp hi ht; exact ⟨v, e1, e2.keep fr.keep⟩
    ·have := hl _ _ _ he
     have hz2 := ltz he
     rw [Nat.add_mul, Nat.one_mul] at hz2
     rw [cell _ _ (by omega), if_neg (apart hne (by omega))]
     obtain ⟨v, e1, e2⟩ := h6 p _ _ _ jj t hp he ht; exact ⟨v, e1, e2.keep fr.keep⟩
   ·rw [e0] at hq
    obtain rfl : p = q' := Option.some.inj (hp.symm.trans hq)
    rcases get he with ⟨rfl, rfl, rfl⟩ | ⟨hne, he⟩
    ·rw [cell _ _ (by omega), if_pos (by omega)]
     exact ⟨_, rfl, ⟨_, _, rfl⟩, fun _ => .rf c1 fun _ => ⟨q, by simp only [hd1, if_true]; exact d1, oj d2, by simp only [hd1, if_true]; exact d3, rfl⟩⟩
    ·have := hl _ _ _ he
     have hz2 := ltz he
     rw [Nat.add_mul, Nat.one_mul] at hz2
     rw [cell _ _ (by omega), if_neg (apart hne (by omega))]
     obtain ⟨v, e1, e2, e3⟩ := h7 p _ _ _ hp he
     refine ⟨v, e1, e2, fun hpos => ?_⟩
     cases e3 hpos with
     | rf q1 q2 =>
      refine .rf q1 fun hc => ?_
      obtain ⟨p2, t1, t2, t3, t4⟩ := q2 hc
      have hs : hd1 (m, some i') = hd (m, some i') := stk (some i') (fun e => hne (Option.some.inj e))
      exact ⟨p2, by rw [hs]; exact t1, oo t2 hkj (fun e => hne (Option.some.inj (Prod.mk.inj e).2)), by rw [hs]; exact t3, t4⟩
   ·rcases get he with ⟨rfl, rfl, rfl⟩ | ⟨hne, he⟩
    ·exact hR.to fr.keep (by simp only [hd1, if_true]) (fun b hb => ⟨hother b _ hb (fun e => hkj (Prod.mk.inj e).1.symm), oj hb⟩)
    ·exact (h8 _ _ _ he).to fr.keep (stk _ (fun e => hne (Option.some.inj e))) (fun b hb => ⟨hother b _ hb (by simp), oo hb hkj (fun e => hne (Option.some.inj (Prod.mk.inj e).2))⟩)
  ·rw [List.getElem?_set_ne (Ne.symm hmk)] at hm
   by_cases hmj : m = j
   ·subst hmj
    rw [List.getElem?_set_self (by simpa using hjlt)] at hm
    obtain rfl := Option.some.inj hm
    trivial
   ·rw [List.getElem?_set_ne (Ne.symm hmj)] at hm
    obtain ⟨o1, ho1, rfl⟩ := getElem?_map_some hm
    have ho := h.rel.obj m o1 ho1
    have hhm : ∀ s', hd1 (m, s') = hd (m, s') := fun s' => by simp only [hd1]; rw [if_neg (fun e => hmk (Prod.mk.inj e).1)]
    have hbm : ∀ b s', own b = ow (m, s') → w'.heap[b]? = w.heap[b]? ∧ own1 b = ow (m, s') := fun b s' hb => ⟨hother b _ hb (fun e => hmk (Prod.mk.inj e).1), oo hb hmj (fun e => hmk (Prod.mk.inj e).1)⟩
    cases o1 with
    | dead => trivial
    | row s els => exact RowAt.to ho fr.keep (hhm _) (fun b hb => hbm b _ hb)
    | nest z s els => exact NestAt.to ho fr.keep hhm hbm
    | st cs =>
     obtain ⟨q', g1, g2, g3, g4⟩ := ho
     obtain ⟨e1, e2⟩ := hbm _ _ g2
     refine ⟨q', by rw [hhm]; exact g1, e2, by rw [List.length_map]; exact there_of_block e1 g3, fun jj x hx => ?_⟩
     obtain ⟨y, hy, rfl⟩ := getElem?_map_some hx
     obtain ⟨v, hv, hr, ho⟩ := g4 jj y hy
     exact ⟨v, (World.cell?_of_block (a := ⟨q'.1, q'.2 + jj, none⟩) e1).trans hv, hr.sk0 fr.keep st, ho⟩
 ·rw [size]
  simp only [AS.lay, List.length_set, List.length_map]
  rcases back hb with ⟨h1, rfl⟩ | ⟨h1, _⟩
  ·exact ⟨(h.rel.dom b _ h1).1, hklt⟩
  ·exact h.rel.dom b _ h1
 ·rw [size]; exact h.rel.lt b (backe hb)
 ·refine fun r b hr hb => ?_
  simp only [Ctx.um, AS.lay, List.contains_cons, Bool.not_or, Bool.and_eq_true] at hr
  obtain ⟨e1, e2⟩ := h.stay r b (by simp only [Ctx.um, Bool.and_eq_true]; exact ⟨hr.1, hr.2.2.2⟩) hb
  have n1 : r.1 ≠ k := fun e => by have := hr.2.1; rw [e] at this; simp at this
  have n2 : r.1 ≠ j := fun e => by have := hr.2.2.1; rw [e] at this; simp at this
  exact ⟨by simp only [hd1]; rw [if_neg (fun e => n1 (congrArg Prod.fst e))]; exact e1, oo e2 n2 (fun e => n1 (congrArg Prod.fst e))⟩
 ·simp only [AS.lay, List.contains_cons, h.gr x hx, Bool.or_true]
end
end Go.V
