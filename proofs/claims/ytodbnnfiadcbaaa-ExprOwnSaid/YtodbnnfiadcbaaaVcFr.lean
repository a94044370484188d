import Derived.Test.YtodbnnfiadcbaaaVcO
/- A call that tells a new tree: the row that it shows is the caller's own. -/
set_option linter.unusedVariables false
set_option linter.unusedSimpArgs false
set_option linter.unusedSectionVars false
namespace Go.V
open Go.RowKit
variable [Wid]
section
variable {P : Program} {σ : AS}
def ownF (w : World) (b0 : Nat) : Own := fun b => if b = b0 then none else if b < w.heap.size then ext else none
theorem VR.scalV {w w' : World} {own own' : Own} {hd hd' : Hd} {x v : Value} (h : VR w own hd (.t (.v x)) v) : VR w' own' hd' (.t (.v x)) v := by
 obtain ⟨rfl, ho⟩ := h.v'
 exact .t (.v ho)
theorem CallV.of_fresh {f : FuncId} {K : AV → AS → Prop} {xs : List AV} {ls els : List (List T)} {s1 s2 : Nat} {sv va vb vc vp ve : Value}
 (hM : MV P f [.t (.sl ls), .t (.v sv)] (.tup [.agg [.t (.v va), .t (.v vb), .t (.v vc), .t (.sl els)], .t (.v vp), .t (.v ve)]))
 (hxs : xs = [.t (.sl ls), .t (.v sv)]) (h1 : ls ≠ []) (hl1 : Wd s1 ls) (hl2 : Wd s2 els) (hs1 : s1 ≠ 1) (hs2 : s2 ≠ 1) (h12 : s1 ≠ s2) (hsc : scalE ls)
 (hK0 : els = [] → K (.tup [.agg [.t (.v va), .t (.v vb), .t (.v vc), .t (.sl [])], .t (.v vp), .t (.v ve)]) σ)
 (hK1 : els ≠ [] → K (.tup [.agg [.t (.v va), .t (.v vb), .t (.v vc), .rf (σ.h.length, none) s2 0 els.length], .t (.v vp), .t (.v ve)]) (σ.new (.row s2 (els.map fun el => el.map fun _ => T.any)))) :
 CallV P f xs σ K := by
 refine ⟨hM.1, fun C own hd a w h vs ha => ?_⟩
 subst hxs
 have hsz : vs.size = 2 := ha.1
 have a0 := ha.2 0 _ vs[0] rfl (Array.getElem?_eq_getElem (by omega))
 have a1 := ha.2 1 _ vs[1] rfl (Array.getElem?_eq_getElem (by omega))
 generalize hv0 : vs[0] = v0 at a0
 cases a0.t' with
 | nil => exact absurd rfl h1
 | @sl _ b0 o0 cap s ho hb hle hmx hlen hc hv hpl hth =>
 have hpos : 0 < ls.length := List.length_pos_iff.2 h1
 have hss : s = s1 := (hlen 0 _ (List.getElem?_eq_getElem hpos)).symm.trans (hl1.get (List.getElem?_eq_getElem hpos))
 subst hss
 have hpl' : Pln w b0 s := hpl.resolve_right (fun h => hs1 h.1)
 have c0 : ownF w b0 b0 = none := if_pos rfl
 have cx : ∀ {b}, b < w.heap.size → b ≠ b0 → ownF w b0 b = ext := fun {b} hb hne => by unfold ownF; rw [if_neg hne, if_pos hb]
 have hrel : Rel (ownF w b0) (fun _ => (none, 0)) [] w := by
  refine ⟨fun k o hk => by simp at hk, fun b r hb => ?_, fun b hb => ?_⟩
  ·unfold ownF at hb
   split at hb
   ·cases hb
   ·split at hb <;> cases hb
  ·unfold ownF at hb
   split at hb
   ·cases hb
   ·split at hb
    ·assumption
    ·cases hb
 have hargs : ArgsR w (ownF w b0) (fun _ => (none, 0)) [.t (.sl ls), .t (.v sv)] vs := by
  refine ⟨hsz, fun i x v hx hvi => ?_⟩
  match i, hx with
  | 0, rfl =>
   rw [Array.getElem?_eq_getElem (by omega)] at hvi
   obtain rfl := Option.some.inj hvi
   rw [hv0]
   exact .t (.sl c0 hb hle hmx hlen hc (fun i el j t v e1 e2 e3 => by
    obtain ⟨x, rfl⟩ := hsc i el j t e1 e2
    cases hv i el j _ v e1 e2 e3 with
    | v h => exact .v h) hpl hth)
  | 1, rfl =>
   rw [Array.getElem?_eq_getElem (by omega)] at hvi
   obtain rfl := Option.some.inj hvi
   exact a1.scalV
 refine (hM.2 _ _ w vs hrel hargs).mono fun e w' ⟨v, r, h', own', hd', he, hrel', hfr, hst, hvr, hq⟩ => ?_
 subst hq
 have hsame : ∀ b, b < w.heap.size → w'.heap[b]? = w.heap[b]? := fun b hb => by
  by_cases hne : b = b0
  ·subst hne; exact (hfr.blk b hb c0).1
  ·exact (hfr.ex b (cx hb hne)).1
 cases hvr with
 | @tup _ vv g1 g2 =>
 have g1 : vv.size = 3 := g1
 have r0 := g2 0 _ vv[0] rfl (Array.getElem?_eq_getElem (by omega))
 have r1 := g2 1 _ vv[1] rfl (Array.getElem?_eq_getElem (by omega))
 have r2 := g2 2 _ vv[2] rfl (Array.getElem?_eq_getElem (by omega))
 generalize hq0 : vv[0] = q0 at r0
 cases r0 with
 | @agg _ aa k1 k2 =>
 have k1 : aa.size = 4 := k1
 have t0 := k2 0 _ aa[0] rfl (Array.getElem?_eq_getElem (by omega))
 have t1 := k2 1 _ aa[1] rfl (Array.getElem?_eq_getElem (by omega))
 have t2 := k2 2 _ aa[2] rfl (Array.getElem?_eq_getElem (by omega))
 have t3 := k2 3 _ aa[3] rfl (Array.getElem?_eq_getElem (by omega))
 have mk : ∀ {own2 : Own} {hd2 : Hd} {X : AV}, VR w' own2 hd2 X aa[3] → VR w' own2 hd2 (.tup [.agg [.t (.v va), .t (.v vb), .t (.v vc), X], .t (.v vp), .t (.v ve)]) (.tuple vv) := fun {own2 hd2 X} hX => by
  refine .tup g1 fun i x u hx hu => ?_
  match i, hx with
  | 0, rfl =>
   rw [Array.getElem?_eq_getElem (by omega)] at hu
   obtain rfl := Option.some.inj hu
   rw [hq0]
   refine .agg k1 fun i x u hx hu => ?_
   match i, hx with
   | 0, rfl => rw [Array.getElem?_eq_getElem (by omega)] at hu; obtain rfl := Option.some.inj hu; exact t0.scalV
   | 1, rfl => rw [Array.getElem?_eq_getElem (by omega)] at hu; obtain rfl := Option.some.inj hu; exact t1.scalV
   | 2, rfl => rw [Array.getElem?_eq_getElem (by omega)] at hu; obtain rfl := Option.some.inj hu; exact t2.scalV
   | 3, rfl => rw [Array.getElem?_eq_getElem (by omega)] at hu; obtain rfl := Option.some.inj hu; exact hX
  | 1, rfl => rw [Array.getElem?_eq_getElem (by omega)] at hu; obtain rfl := Option.some.inj hu; exact r1.scalV
  | 2, rfl => rw [Array.getElem?_eq_getElem (by omega)] at hu; obtain rfl := Option.some.inj hu; exact r2.scalV
 generalize aa[3] = u3 at t3 mk
 by_cases hne : els = []
 ·subst hne
  have fr2 : Fr w own w' own := ⟨hfr.os, hfr.tape, hfr.output, hfr.size, fun b hb ho => ⟨hsame b hb, ho⟩, fun b ho => ⟨hsame b (h.rel.lt b ho), ho⟩, fun b ho => ho⟩
  have st : Stay own hd own hd fun _ => true := fun r b _ hb => ⟨rfl, hb⟩
  have hX : VR w' own hd (.t (.sl [])) u3 := by
   cases t3.t' with
   | nil => exact .t .nil
   | sl => exact .t .nil
  exact ⟨_, _, σ, own, hd, he, ⟨⟨fun k o hk => (h.rel.obj k o hk).same fr2.keep st (fun s => rfl) (fun b s hb => ⟨hsame b (h.rel.dom b _ hb).1, rfl⟩),
   fun b r hb => ⟨Nat.lt_of_lt_of_le (h.rel.dom b r hb).1 hfr.size, (h.rel.dom b r hb).2⟩, fun b hb => Nat.lt_of_lt_of_le (h.rel.lt b hb) hfr.size⟩,
   h.fr.trans fr2, h.stay, h.gr, h.le, h.dfr, h.size, fun i hi => (h.slot i hi).same fr2.keep st⟩, mk hX, hK0 rfl⟩
 ·cases t3.t' with
  | nil => exact absurd rfl hne
  | @sl _ b1 o1 cap1 s' ho1 hb1 hle1 hmx1 hlen1 hc1 hv1 hpl1 hth1 =>
  have hpos1 : 0 < els.length := List.length_pos_iff.2 hne
  have hss : s' = s2 := (hlen1 0 _ (List.getElem?_eq_getElem hpos1)).symm.trans (hl2.get (List.getElem?_eq_getElem hpos1))
  subst hss
  have hpl1' : Pln w' b1 s' := hpl1.resolve_right (fun h => hs2 h.1)
  have hnew : w.heap.size ≤ b1 := by
   rcases Nat.lt_or_ge b1 w.heap.size with hlt | hge
   ·exfalso
    by_cases hbb : b1 = b0
    ·subst hbb
     obtain ⟨c, t, e1, e2⟩ := hpl1'
     obtain ⟨c', t', e3, e4⟩ := hpl'
     rw [hsame b1 hlt, e3] at e1
     cases e1
     exact h12 (e4.symm.trans e2)
    ·rw [(hfr.ex b1 (cx hlt hbb)).2] at ho1; cases ho1
   ·exact hge
  have hold : ∀ b r, own b = ow r → b < w.heap.size ∧ b ≠ b1 := fun b r hb => by have := (h.rel.dom b r hb).1; exact ⟨this, by omega⟩
  let own2 : Own := fun b => if b = b1 then ow (σ.h.length, none) else own b
  let hd2 : Hd := fun r => if r = (σ.h.length, none) then (some (b1, o1), cap1) else hd r
  have e1 : own2 b1 = ow (σ.h.length, none) := if_pos rfl
  have e2 : ∀ {b}, b ≠ b1 → own2 b = own b := fun hne => if_neg hne
  have eh : hd2 (σ.h.length, none) = (some (b1, o1), cap1) := if_pos rfl
  have fr2 : Fr w own w' own2 := ⟨hfr.os, hfr.tape, hfr.output, hfr.size, fun b hb ho => ⟨hsame b hb, by rw [e2 (by omega)]; exact ho⟩,
   fun b ho => ⟨hsame b (h.rel.lt b ho), by have := h.rel.lt b ho; rw [e2 (by omega)]; exact ho⟩, fun b hb => by
    by_cases hq : b = b1
    ·subst hq; rw [e1] at hb; cases hb
    ·rwa [e2 hq] at hb⟩
  have s2 := h.step (w' := w') (own' := own2) (hd' := hd2) (h' := σ.h ++ [.row s' (els.map fun el => el.map fun _ => T.any)]) σ.h.length fr2
   (fun r b _ hb => ⟨if_neg (fun e => by have := (h.rel.dom b r hb).2; rw [e] at this; exact Nat.lt_irrefl _ this), by rw [e2 (hold b r hb).2]; exact hb⟩)
   (fun k s hk hlt => if_neg (fun e => hk (congrArg Prod.fst e)))
   (fun b r hb _ => ⟨hsame b (hold b r hb).1, e2 (hold b r hb).2⟩)
   (fun k hk => getElem?_app hk)
   (fun o' ho' => by
    rw [List.getElem?_append_right (Nat.le_refl _), Nat.sub_self] at ho'
    obtain rfl : AO.row s' (els.map fun el => el.map fun _ => T.any) = o' := by simpa using ho'
    refine ⟨fun i el hi => ?_, by rw [List.length_map]; exact hmx1, by rw [List.length_map, eh]; exact hle1, (fun e => by rw [eh] at e; cases e), fun p e => ?_, fun p e => ?_, fun p e => ?_, fun p i el j t e hi hj => ?_⟩
    ·obtain ⟨el0, hi0, rfl⟩ := getElem?_map_some hi
     rw [List.length_map]; exact hlen1 i el0 hi0
    ·rw [eh] at e; cases e; exact e1
    ·rw [eh] at e; cases e; exact hpl1'
    ·rw [eh] at e ⊢; cases e
     intro j hj
     refine ⟨hth1 j hj, ?_⟩
     obtain ⟨c, t, e3, _⟩ := hpl1'
     simp [World.frozen?, e3]
    ·rw [eh] at e; cases e
     obtain ⟨el0, hi0, rfl⟩ := getElem?_map_some hi
     obtain ⟨t0, hj0, rfl⟩ := getElem?_map_some hj
     obtain ⟨x, hx⟩ := Option.isSome_iff_exists.1 (hc1 i el0 j t0 hi0 hj0)
     exact ⟨x, hx, .any (hv1 i el0 j t0 x hi0 hj0 hx).one⟩)
   (fun b r hb => by
    by_cases hq : b = b1
    ·subst hq; rw [e1] at hb; cases hb; exact ⟨hb1, by simp⟩
    ·rw [e2 hq] at hb
     have := h.rel.dom b r hb
     have := hfr.size
     exact ⟨by omega, by simp; omega⟩)
   (fun b hb => by
    by_cases hq : b = b1
    ·subst hq; exact hb1
    ·rw [e2 hq] at hb
     have := h.rel.lt b hb
     have := hfr.size
     omega)
  exact ⟨_, _, _, own2, hd2, he, s2, mk (.rf hle1 fun _ => ⟨(b1, o1), by rw [eh], e1, by rw [eh]; exact Nat.le_of_eq (Nat.zero_add _), by simp⟩), hK1 hne⟩
end
end Go.V
