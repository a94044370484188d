import Derived.Test.YtodbnnfiadcbaaaVcK
import Derived.ScopeJumps
import Derived.Deep.LoopGhost
/- A scope with one label, come back to by goto: a loop. -/
set_option linter.unusedVariables false
set_option linter.unusedSimpArgs false
set_option linter.unusedSectionVars false
namespace Go.V
open Go.RowKit
variable [Wid]
section
variable {P : Program} {τ : Tys} {C : Ctx} {w w' : World} {own : Own} {hd : Hd} {σ : AS} {a : Act}

def scope1 {α : Type} (V : α → List (Nat × AV)) (H : α → List AO) (m : List Nat) (Q : Exit → AS → Prop) : Exit → AS → Prop := fun e σ' => match e with
 | .normal => bif sub σ'.m m then ∃ x, agree σ' (V x) ∧ ∃ ext, σ'.h = H x ++ ext else False
 | .goto _ => False
 | e => Q e σ'
def scope2 {α : Type} (l : Nat) (V : α → List (Nat × AV)) (H : α → List AO) (m : List Nat) (μ : α → Nat) (x : α) (Q : Exit → AS → Prop) : Exit → AS → Prop := fun e σ' => match e with
 | .goto i => bif Nat.beq i l && sub σ'.m m then ∃ y, μ y < μ x ∧ agree σ' (V y) ∧ ∃ ext, σ'.h = H y ++ ext else False
 | e => Q e σ'

theorem CodeV.scope (hτ : Tab P τ) {α : Type} {A D : Code} {Q : Exit → AS → Prop} {l : Nat} (V : α → List (Nat × AV)) (H : α → List AO) (m : List Nat) (N : Nat) (μ : α → Nat)
 (hl : findLabel (.seq A (.seq (.label l) D)) l = some (.seq .skip D)) (he : Nat.ble σ.e N = true)
 (hf : ∀ x, (H x).length = N ∧ fit (V x) (H x) = true)
 (first : vCode P τ A (scope1 V H m Q) σ)
 (round : ∀ x, vCode P τ D (scope2 l V H m μ x Q) (σ.lp (wr (.seq A (.seq (.label l) D))) (V x) (H x) m N)) :
 CodeV P (.scope (.seq A (.seq (.label l) D))) Q σ := by
 refine ⟨fun C own hd a w h => ?_⟩
 have h0 := h.loc
 have hCN : C.e ≤ N := Nat.le_trans h.le (Nat.le_of_ble_eq_true he)
 generalize hws : wr (.seq A (.seq (.label l) D)) = ws at round
 have wD : ∀ {a1 a' : Act}, Un (wr D) a1 a' → Un ws a1 a' := fun k => k.mono fun i hi => by
  rw [← hws] at hi
  simp only [wr, Bool.or_eq_false_iff] at hi
  exact hi.2.2
 let C0 : Ctx := ⟨w, own, hd, C.e, σ.m⟩
 let I : Nat → Act → World → Prop := fun n a1 w1 => ∃ x own2 hd2, μ x = n ∧ SX C0 own2 hd2 (σ.lp ws (V x) (H x) m N) a1 w1 ∧ Un ws a a1
 let R : Exit → Act → World → Prop := fun e a' w' => ∃ σ' own' hd', SX C own' hd' σ' a' w' ∧ Q e σ' ∧ Un ws a a'
 have pass : ∀ n a1 w1, I n a1 w1 → D.wp P (Exit.jump l (fun a' w' => ∃ k, k < n ∧ I k a' w') R) a1 w1 := by
  rintro n a1 w1 ⟨x, own2, hd2, rfl, s2, u2⟩
  refine wp_mono ((vCode_ok hτ D _ _ (round x)).run C0 own2 hd2 a1 w1 s2) fun e a' w' ⟨σ', own', hd', s3, q3, u3⟩ => ?_
  have u4 := u2.trans (wD u3)
  cases e with
  | goto i =>
   obtain ⟨g1, y, g2, g3, ext, g4⟩ := bif_and q3
   simp only [Bool.and_eq_true] at g1
   refine ⟨Nat.eq_of_beq_eq_true g1.1, μ y, g2, y, _, _, rfl, (h0.head (ws := ws) (m := m) (e := N) s3 s3.fr u4 g3 g4 (hf y).2 g1.2 (by rw [(hf y).1]; exact hCN) hCN).1, u4⟩
  | normal => exact ⟨σ', own', hd', h.glue s3, q3, u4⟩
  | exit i => exact ⟨σ', own', hd', h.glue s3, q3, u4⟩
  | ret => exact ⟨σ', own', hd', h.glue s3, q3, u4⟩
  | panic p => exact ⟨σ', own', hd', h.glue s3, q3, u4⟩
  | outgrown => exact ⟨σ', own', hd', h.glue s3, q3, u4⟩
 have hR : (Code.scope (.seq A (.seq (.label l) D))).wp P R a w := by
  refine wp_scope_jumps l (fun a w => ∃ n, I n a w) (fun a w => leastOf (fun n => I n a w)) hl ?_ ?_
  ·let Z : Exit → Act → World → Prop := fun e a' w' => match e with
    | .normal => ∃ n, I n a' w'
    | .goto _ => False
    | e => R e a' w'
   have fin : ∀ e a' w' σ' own' hd', SX C0 own' hd' σ' a' w' → scope1 V H m Q e σ' → Un ws a a' → Z e a' w' := fun e a' w' σ' own' hd' s3 q3 u4 => by
    cases e with
    | goto i => exact q3.elim
    | normal =>
     obtain ⟨g1, y, g3, ext, g4⟩ := bif_and q3
     exact ⟨μ y, y, _, _, rfl, (h0.head (ws := ws) (m := m) (e := N) s3 s3.fr u4 g3 g4 (hf y).2 g1 (by rw [(hf y).1]; exact hCN) hCN).1, u4⟩
    | exit i => exact ⟨σ', own', hd', h.glue s3, q3, u4⟩
    | ret => exact ⟨σ', own', hd', h.glue s3, q3, u4⟩
    | panic p => exact ⟨σ', own', hd', h.glue s3, q3, u4⟩
    | outgrown => exact ⟨σ', own', hd', h.glue s3, q3, u4⟩
   refine wp_seq (wp_mono ((vCode_ok hτ A _ _ first).run C0 own hd a w h0) fun e a' w' ⟨σ', own', hd', s3, q3, u3⟩ => ?_)
   have u4 : Un ws a a' := u3.mono fun i hi => by rw [← hws] at hi; simp only [wr, Bool.or_eq_false_iff] at hi; exact hi.1
   cases e with
   | normal =>
    obtain ⟨n, hn⟩ := fin _ a' w' σ' own' hd' s3 q3 u4
    refine wp_seq (wp_label ?_)
    refine wp_mono (pass _ a' w' hn) fun e a' w' hq => ?_
    cases e with
    | goto i => obtain ⟨q1, k, hk, hi⟩ := hq; exact ⟨q1, ⟨k, hi⟩⟩
    | _ => exact hq
   | goto i => exact (fin _ a' w' σ' own' hd' s3 q3 u4).elim
   | exit i => exact fin _ a' w' σ' own' hd' s3 q3 u4
   | ret => exact fin _ a' w' σ' own' hd' s3 q3 u4
   | panic p => exact fin _ a' w' σ' own' hd' s3 q3 u4
   | outgrown => exact fin _ a' w' σ' own' hd' s3 q3 u4
  ·rintro a1 w1 hI
   refine wp_seq (wp_skip ?_)
   refine wp_mono (pass _ a1 w1 (leastOf_spec hI).1) fun e a' w' hq => ?_
   cases e with
   | goto i =>
    obtain ⟨q1, k, hk, hi⟩ := hq
    exact ⟨q1, ⟨k, hi⟩, Nat.lt_of_le_of_lt ((leastOf_spec ⟨k, hi⟩).2 k hi) hk⟩
   | _ => exact hq
 exact wp_mono hR fun e a' w' ⟨σ', own', hd', q1, q2, q3⟩ => ⟨σ', own', hd', q1, q2, by rw [show wr (Code.scope (.seq A (.seq (.label l) D))) = ws from hws]; exact q3⟩
def cz (h : List AO) (k : Nat) : AV → AV
 | .rf (j, s) z off n => bif Nat.beq j k then (match h[k]? with
  | some (.row _ els) => bif Nat.ble (off + n) els.length then (match cv0 h [] [k] (.rf (j, s) z off n) with | .t y => .t y | _ => .junk) else .junk
  | some (.nest _ _ els) => bif Nat.ble (off + n) els.length then (match cv0 h [] [k] (.rf (j, s) z off n) with | .t y => .t y | _ => .junk) else .junk
  | _ => .junk) else .rf (j, s) z off n
 | .pt j off => bif Nat.beq j k then (match cv0 h [] [k] (.pt j off) with | .pT ts off => .pT ts off | _ => .junk) else .pt j off
 | .t x => .t x
 | x => x.scrub (nk k)
def czO (h : List AO) (k : Nat) : AO → AO
 | .st cs => .st (cs.map (cz h k))
 | o => o
def AS.cl (σ : AS) (k : Nat) : AS := ⟨σ.n, fun i => cz σ.h k (σ.l i), (σ.h.map (czO σ.h k)).set k .dead, k :: σ.m, σ.e⟩
theorem SeeA.cl (k : Nat) (hk : Nat.blt k σ.h.length = true) : ∀ C own hd a w, SX C own hd σ a w → ∃ own' hd', SX C own' hd' (σ.cl k) a w ∧ ∀ x v, VR w own hd x v → VR w own' hd' (cz σ.h k x) v := fun C own hd a w h => by
 let own1 : Own := fun b => match own b with
  | some (some r) => if r.1 = k then none else ow r
  | some none => ext
  | none => none
 have on : ∀ {b}, own b = none → own1 b = none := fun {b} hb => by show (match own b with | some (some r) => if r.1 = k then none else ow r | some none => ext | none => none) = _; rw [hb]
 have oe : ∀ {b}, own b = ext → own1 b = ext := fun {b} hb => by show (match own b with | some (some r) => if r.1 = k then none else ow r | some none => ext | none => none) = _; rw [hb]
 have oo : ∀ {b r}, own b = ow r → own1 b = if r.1 = k then none else ow r := fun {b r} hb => by show (match own b with | some (some r) => if r.1 = k then none else ow r | some none => ext | none => none) = _; rw [hb]
 have back : ∀ {b r}, own1 b = ow r → own b = ow r := fun {b r} hb => by
  cases hq : own b with
  | none => rw [on hq] at hb; cases hb
  | some q =>
   cases q with
   | none => rw [oe hq] at hb; cases hb
   | some q =>
    rw [oo hq] at hb
    split at hb
    ·cases hb
    ·exact hb
 have backe : ∀ {b}, own1 b = ext → own b = ext := fun {b} hb => by
  cases hq : own b with
  | none => rw [on hq] at hb; cases hb
  | some q =>
   cases q with
   | none => rfl
   | some q =>
    rw [oo hq] at hb
    split at hb <;> cases hb
 have fr : Fr w own w own1 := ⟨rfl, rfl, rfl, Nat.le_refl _, fun b _ h => ⟨rfl, on h⟩, fun b h => ⟨rfl, oe h⟩, fun b h => backe h⟩
 have st : Stay own hd own1 hd (nk k) := fun r b hr hb => ⟨rfl, by rw [oo hb, if_neg (nk_ne hr)]⟩
 have s1 := h.move k (o := .dead) (Nat.blt_eq.mp hk) fr st (fun _ _ _ => rfl) (fun b r hb hr => ⟨rfl, by rw [oo hb, if_neg hr, hb]⟩) trivial
  (fun b r hb => h.rel.dom b r (back hb)) (fun b hb => h.rel.lt b (backe hb))
 have gen : ∀ x v, VR w own hd x v → cvP0 σ.h [] x → imm0 (cv0 σ.h [] [k] x) = true → VR w own1 hd (cv0 σ.h [] [k] x) v := fun x v hv g2 g1 => by
  have hx := cv0_ok (lent := []) (bor := [k]) h.rel hv g2
  refine hx.imm0 ⟨Nat.le_refl _, fun b hb ho => ⟨rfl, ?_⟩⟩ g1
  cases hq : own b with
  | none => exact on hq
  | some q =>
   cases q with
   | none => rw [ownC_ext hq] at ho; cases ho
   | some q =>
    obtain ⟨k', s⟩ := q
    rw [oo hq]
    by_cases hkk : k' = k
    ·exact if_pos hkk
    ·rw [ownC_oth (lent := []) (bor := [k]) hq rfl (by simpa using hkk)] at ho; cases ho
 have all : ∀ x v, VR w own hd x v → VR w own1 hd (cz σ.h k x) v := fun x v hv => by
  have hs := hv.keep fr.keep st
  cases x with
  | rf r z off n =>
   obtain ⟨j, s⟩ := r
   simp only [cz]
   cases hj : Nat.beq j k with
   | false =>
    rw [cond_false]
    have : (AV.rf (j, s) z off n).scrub (nk k) = .rf (j, s) z off n := by
     show (bif nk k j then AV.rf (j, s) z off n else .junk) = _
     rw [show nk k j = true by simp only [nk, hj, Bool.not_false], cond_true]
    rwa [this] at hs
   | true =>
    rw [cond_true]
    split
    ·rename_i s' els hrow
     cases hle : Nat.ble (off + n) els.length with
     | false => exact .junk
     | true =>
      rw [cond_true]
      have g := gen _ _ hv (by
       simp only [cvP0]
       obtain rfl := Nat.eq_of_beq_eq_true hj
       rw [hrow]
       exact Nat.le_of_ble_eq_true hle)
      split
      ·rename_i y hy
       rw [hy] at g
       exact g rfl
      ·exact .junk
    ·rename_i z' s' els hrow
     cases hle : Nat.ble (off + n) els.length with
     | false => exact .junk
     | true =>
      rw [cond_true]
      have g := gen _ _ hv (by
       simp only [cvP0]
       obtain rfl := Nat.eq_of_beq_eq_true hj
       rw [hrow]
       exact Nat.le_of_ble_eq_true hle)
      split
      ·rename_i y hy
       rw [hy] at g
       exact g rfl
      ·exact .junk
    ·exact .junk
  | pt j off =>
   simp only [cz]
   cases hj : Nat.beq j k with
   | false =>
    rw [cond_false]
    have : (AV.pt j off).scrub (nk k) = .pt j off := by
     show (bif nk k j then AV.pt j off else .junk) = _
     rw [show nk k j = true by simp only [nk, hj, Bool.not_false], cond_true]
    rwa [this] at hs
   | true =>
    rw [cond_true]
    have g := gen _ _ hv trivial
    split
    ·rename_i ts off' hy
     rw [hy] at g
     exact g rfl
    ·exact .junk
  | t x => exact hs
  | _ => exact hs
 refine ⟨own1, hd, ⟨⟨fun j o hj => ?_, fun b r hb => ?_, s1.rel.lt⟩, s1.fr, s1.stay, s1.gr, s1.le, s1.dfr, s1.size, fun i hi => all _ _ (h.slot i hi)⟩, all⟩
 ·simp only [AS.cl] at hj
  by_cases hjk : j = k
  ·subst hjk
   rw [List.getElem?_set_self (by simpa using Nat.blt_eq.mp hk)] at hj
   cases hj
   trivial
  ·rw [List.getElem?_set_ne (Ne.symm hjk)] at hj
   obtain ⟨o1, ho1, rfl⟩ := getElem?_map_some hj
   have ho := h.rel.obj j o1 ho1
   cases o1 with
   | dead => trivial
   | row s els =>
    obtain ⟨h1, h0, h2, h3, h4, h9, h5, h6⟩ := ho
    exact ⟨h1, h0, h2, h3, fun q hq => by rw [oo (h4 q hq), if_neg hjk], h9, h5, fun q i el j t e1 e2 e3 => by obtain ⟨v, f1, f2⟩ := h6 q i el j t e1 e2 e3; exact ⟨v, f1, f2.keep fr.keep⟩⟩
   | nest z s els => exact NestAt.to ho fr.keep (fun _ => rfl) (fun b s hb => ⟨rfl, by rw [oo hb, if_neg hjk]⟩)
   | st cs =>
    obtain ⟨q, h1, h2, h3, h4⟩ := ho
    refine ⟨q, h1, by rw [oo h2, if_neg hjk], by rw [List.length_map]; exact h3, fun i x hx => ?_⟩
    obtain ⟨y, hy, rfl⟩ := getElem?_map_some hx
    obtain ⟨v, e1, e2, e3⟩ := h4 i y hy
    exact ⟨v, e1, all _ _ e2, e3⟩
 ·have := h.rel.dom b r (back hb)
  exact ⟨this.1, by simp [AS.cl]; exact this.2⟩
theorem See.cl (k : Nat) (hk : Nat.blt k σ.h.length = true) : See σ (σ.cl k) := fun C own hd a w h => by
 obtain ⟨o, d, s, _⟩ := SeeA.cl k hk C own hd a w h
 exact ⟨o, d, s⟩
theorem CallV.cl {f : FuncId} {xs : List AV} {K : AV → AS → Prop} (k : Nat) (hk : Nat.blt k σ.h.length = true) (h : CallV P f (xs.map (cz σ.h k)) (σ.cl k) K) : CallV P f xs σ K :=
 ⟨h.ent, fun C own hd a w hσ vs ha => by
  obtain ⟨own', hd', s, g⟩ := SeeA.cl k hk C own hd a w hσ
  refine h.run C own' hd' a w s vs ⟨by rw [List.length_map]; exact ha.1, fun i x v h1 h2 => ?_⟩
  obtain ⟨y, hy, rfl⟩ := getElem?_map_some h1
  exact g y v (ha.2 i y v hy h2)⟩
theorem SeeA.close (k : Nat) (V : List (Nat × AV)) (hk : Nat.blt k σ.h.length = true) (hV : fzOk σ k V) : ∀ C own hd a w, SX C own hd σ a w → ∃ own' hd', SX C own' hd' (σ.fz k V) a w ∧
 ∀ x v, VR w own hd x v → cvP0 σ.h [] x → imm0 (cv0 σ.h [] [k] x) = true → VR w own' hd' (cv0 σ.h [] [k] x) v := fun C own hd a w h => by
 let own1 : Own := fun b => match own b with
  | some (some r) => if r.1 = k then none else ow r
  | some none => ext
  | none => none
 have on : ∀ {b}, own b = none → own1 b = none := fun {b} hb => by show (match own b with | some (some r) => if r.1 = k then none else ow r | some none => ext | none => none) = _; rw [hb]
 have oe : ∀ {b}, own b = ext → own1 b = ext := fun {b} hb => by show (match own b with | some (some r) => if r.1 = k then none else ow r | some none => ext | none => none) = _; rw [hb]
 have oo : ∀ {b r}, own b = ow r → own1 b = if r.1 = k then none else ow r := fun {b r} hb => by show (match own b with | some (some r) => if r.1 = k then none else ow r | some none => ext | none => none) = _; rw [hb]
 have back : ∀ {b r}, own1 b = ow r → own b = ow r := fun {b r} hb => by
  cases hq : own b with
  | none => rw [on hq] at hb; cases hb
  | some q =>
   cases q with
   | none => rw [oe hq] at hb; cases hb
   | some q =>
    rw [oo hq] at hb
    split at hb
    ·cases hb
    ·exact hb
 have backe : ∀ {b}, own1 b = ext → own b = ext := fun {b} hb => by
  cases hq : own b with
  | none => rw [on hq] at hb; cases hb
  | some q =>
   cases q with
   | none => rfl
   | some q =>
    rw [oo hq] at hb
    split at hb <;> cases hb
 have fr : Fr w own w own1 := ⟨rfl, rfl, rfl, Nat.le_refl _, fun b _ h => ⟨rfl, on h⟩, fun b h => ⟨rfl, oe h⟩, fun b h => backe h⟩
 have st : Stay own hd own1 hd (nk k) := fun r b hr hb => ⟨rfl, by rw [oo hb, if_neg (nk_ne hr)]⟩
 have s1 := h.move k (o := .dead) (Nat.blt_eq.mp hk) fr st (fun _ _ _ => rfl) (fun b r hb hr => ⟨rfl, by rw [oo hb, if_neg hr, hb]⟩) trivial
  (fun b r hb => h.rel.dom b r (back hb)) (fun b hb => h.rel.lt b (backe hb))
 have gen : ∀ x v, VR w own hd x v → cvP0 σ.h [] x → imm0 (cv0 σ.h [] [k] x) = true → VR w own1 hd (cv0 σ.h [] [k] x) v := fun x v hv g2 g1 => by
  have hx := cv0_ok (lent := []) (bor := [k]) h.rel hv g2
  refine hx.imm0 ⟨Nat.le_refl _, fun b hb ho => ⟨rfl, ?_⟩⟩ g1
  cases hq : own b with
  | none => exact on hq
  | some q =>
   cases q with
   | none => rw [ownC_ext hq] at ho; cases ho
   | some q =>
    obtain ⟨k', s⟩ := q
    rw [oo hq]
    by_cases hkk : k' = k
    ·exact if_pos hkk
    ·rw [ownC_oth (lent := []) (bor := [k]) hq rfl (by simpa using hkk)] at ho; cases ho
 refine ⟨own1, hd, ⟨s1.rel, s1.fr, s1.stay, s1.gr, s1.le, s1.dfr, s1.size, fun i hi => ?_⟩, gen⟩
 show VR w own1 hd (match look V i with | some x => x | none => (σ.l i).scrub (nk k)) _
 cases hq : look V i with
 | none => exact s1.slot i hi
 | some x =>
  obtain ⟨e, g1, g2⟩ := fzOk_get hV hq
  have := gen _ _ (h.slot i hi) g2 (by rw [e]; exact g1)
  rwa [e] at this
theorem cvPL_mem {h : List AO} {lent : List Nat} : ∀ {xs : List AV}, cvPL h lent xs → ∀ {y : AV}, y ∈ xs → cvP0 h lent y
 | x :: r, hp, y, hy => by
  rcases List.mem_cons.1 hy with rfl | hy
  ·exact hp.1
  ·exact cvPL_mem hp.2 hy
theorem CallV.closeA {f : FuncId} {xs xs' : List AV} {K : AV → AS → Prop} (k : Nat) (V : List (Nat × AV)) (hk : Nat.blt k σ.h.length = true) (hV : fzOk σ k V)
 (hx : xs.map (cv0 σ.h [] [k]) = xs') (hi : xs'.all imm0 = true) (hp : cvPL σ.h [] xs) (h : CallV P f xs' (σ.fz k V) K) : CallV P f xs σ K :=
 ⟨h.ent, fun C own hd a w hσ vs ha => by
  obtain ⟨own', hd', s, g⟩ := SeeA.close k V hk hV C own hd a w hσ
  refine h.run C own' hd' a w s vs ⟨by rw [← hx, List.length_map]; exact ha.1, fun i x v h1 h2 => ?_⟩
  subst hx
  rw [List.getElem?_map] at h1
  obtain ⟨y, hy, rfl⟩ := Option.map_eq_some_iff.1 h1
  exact g y v (ha.2 i y v hy h2) (cvPL_mem hp (List.mem_of_getElem? hy)) (all_get hi (by rw [List.getElem?_map, hy]; rfl))⟩
theorem TV.max {w : World} {own : Own} {els : List (List T)} {v : Value} (h : TV w own (.sl els) v) : els.length ≤ 9223372036854775807 := by
 cases h with
 | nil => exact Nat.zero_le _
 | sl _ _ _ h _ _ _ => exact h
theorem CodeV.max {c : Code} {Q : Exit → AS → Prop} (i : Nat) {els : List (List T)} (he : σ.l i = .t (.sl els)) (hi : Nat.blt i σ.n = true) (k : els.length ≤ 9223372036854775807 → CodeV P c Q σ) : CodeV P c Q σ :=
 ⟨fun C own hd a w h => (k (by
  have := h.slot i (Nat.blt_eq.mp hi)
  rw [he] at this
  exact this.t'.max)).run C own hd a w h⟩
end
end Go.V
