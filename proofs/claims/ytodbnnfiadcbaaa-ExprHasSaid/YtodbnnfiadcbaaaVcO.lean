import Derived.Test.YtodbnnfiadcbaaaVcU
/- A nil slice in a variable's field is a row of its own, with nothing in it. -/
set_option linter.unusedVariables false
set_option linter.unusedSimpArgs false
set_option linter.unusedSectionVars false
namespace Go.V
open Go.RowKit
section
variable {P : Program} {τ : Tys} {σ : AS}
/-- A method whose result is told by a relation. -/
theorem CallV.of_Mr {f : FuncId} {xs : List AV} {K : AV → AS → Prop} (k : Nat) {cs : List AV} {xc : List AV} {Q : List AO → AV → Prop} (hM : M P f [.st cs] xc [] Q)
    (hQ : ∀ h r, Q h r → ∃ cs' ext, h = .st cs' :: ext ∧ cs'.all Go.V.imm0 = true ∧ imm r = true ∧ K r ⟨σ.n, σ.l, σ.h.set k (.st cs'), σ.m, σ.e⟩) (hk : σ.h[k]? = some (.st cs)) (hci : cs.all Go.V.imm0 = true)
    (hxc : xs.map (cv σ.h [k] []) = xc) (hp : cvP σ.h [k] xs) : CallV P f xs σ K := by
  refine ⟨hM.1, fun C own hd a w h vs ha => ?_⟩
  have hpk : pos [k] k = some 0 := by simp [pos]
  have hpn : ∀ {j}, j ≠ k → pos [k] j = none := fun {j} hj => by
    have : Nat.beq k j = false := by cases hq : Nat.beq k j with
      | false => rfl
      | true => exact absurd (Nat.eq_of_beq_eq_true hq).symm hj
    simp [pos, this]
  have hkl : k < σ.h.length := (List.getElem?_eq_some_iff.1 hk).1
  have hrc : Rel (ownC own [k] []) (hdC hd [k]) [.st cs] w := by
    refine ⟨fun j o ho => ?_, fun b r hb => ?_, fun b hb => ?_⟩
    · cases j with
      | zero =>
        obtain rfl := Option.some.inj ho
        rw [← clO_imm (lent := [k]) hci]
        exact clO_ok hpk (h.rel.obj k _ hk)
      | succ j => simp at ho
    · obtain ⟨j, s⟩ := r
      obtain ⟨k', h1, h2⟩ := ownC_some hb
      refine ⟨(h.rel.dom b _ h1).1, ?_⟩
      by_cases hkk : k' = k
      · subst hkk; rw [hpk] at h2; cases h2; exact Nat.zero_lt_one
      · rw [hpn hkk] at h2; cases h2
    · rcases ownC_ext' hb with e | ⟨k, s, e, _⟩
      · exact h.rel.lt b e
      · exact (h.rel.dom b _ e).1
  have hac : ArgsR w (ownC own [k] []) (hdC hd [k]) xc vs := by
    rw [← hxc]
    refine ⟨by simpa using ha.1, fun i x v hx hv => ?_⟩
    exact cv_ok h.rel xs vs.toList (by simpa using ha.1) (fun i x v h1 h2 => ha.2 i x v h1 (by simpa using h2)) hp i x v hx (by simpa using hv)
  refine (hM.2 _ _ w vs hrc hac).mono fun e w' ⟨v, r, h', own', hd', he, hrel', hfr, hst, hvr, hq⟩ => ?_
  obtain ⟨cs', ext', rfl, hci', hi, hK⟩ := hQ h' r hq
  let own2 : Own := fun b => match own' b with
    | some (some (0, s)) => ow (k, s)
    | some (some _) => none
    | some none => own b
    | none => none
  let hd2 : Hd := fun r => if r.1 = k then hd' (0, r.2) else hd r
  have o0 : ∀ {b s}, own' b = ow (0, s) → own2 b = ow (k, s) := fun {b s} hb => by simp only [own2, hb]
  have on : ∀ {b}, own' b = none → own2 b = none := fun {b} hb => by simp only [own2, hb]
  have oe : ∀ {b}, own' b = ext → own2 b = own b := fun {b} hb => by simp only [own2, hb]
  have mine : ∀ {b s}, own b = ow (k, s) → own' b = ow (0, s) ∧ hd' (0, s) = hd (k, s) := fun {b s} hb => by
    obtain ⟨e1, e2⟩ := hst (0, s) b (by rfl) (ownC_lent hb hpk)
    exact ⟨e2, by rw [e1, hdC_pos hpk]⟩
  have oth : ∀ {b j s}, own b = ow (j, s) → j ≠ k → w'.heap[b]? = w.heap[b]? ∧ own' b = ext := fun {b j s} hb hj => hfr.ex b (ownC_oth hb (hpn hj) rfl)
  have st : Stay own hd own2 hd2 fun _ => true := fun r b _ hb => by
    obtain ⟨j, s⟩ := r
    by_cases hj : j = k
    · subst hj
      obtain ⟨e1, e2⟩ := mine hb
      exact ⟨by simp only [hd2, if_true]; exact e2, o0 e1⟩
    · obtain ⟨_, e2⟩ := oth hb hj
      exact ⟨by simp only [hd2, if_neg hj], by rw [oe e2]; exact hb⟩
  have fr2 : Fr w own w' own2 := ⟨hfr.os, hfr.tape, hfr.output, hfr.size, fun b hb ho => by
    obtain ⟨e1, e2⟩ := hfr.blk b hb (ownC_none ho)
    exact ⟨e1, on e2⟩, fun b ho => by
    obtain ⟨e1, e2⟩ := hfr.ex b (ownC_ext ho)
    exact ⟨e1, by rw [oe e2]; exact ho⟩, fun b ho => by
    cases hq : own' b with
    | none => rw [on hq] at ho; cases ho
    | some q =>
      cases q with
      | none => rw [oe hq] at ho; exact ho
      | some q =>
        obtain ⟨j, s⟩ := q
        cases j with
        | zero => rw [o0 hq] at ho; cases ho
        | succ j => simp only [own2, hq] at ho; cases ho⟩
  have keep' : Keep w' own' w' own2 := ⟨Nat.le_refl _, fun b _ ho => ⟨rfl, on ho⟩⟩
  refine ⟨v, r, ⟨σ.n, σ.l, σ.h.set k (.st cs'), σ.m, σ.e⟩, own2, hd2, he, ⟨⟨fun j o ho => ?_, fun b r hb => ?_, fun b hb => ?_⟩, h.fr.trans fr2, h.stay.trans st (fun i hi => ⟨hi, rfl⟩), h.gr, h.le, h.dfr, h.size, fun i hi => (h.slot i hi).same fr2.keep st⟩, hvr.imm keep' hi, hK⟩
  · by_cases hj : j = k
    · subst hj
      simp only [List.getElem?_set_self hkl] at ho
      obtain rfl := Option.some.inj ho
      obtain ⟨p, h1, h2, h3, h4⟩ := hrel'.obj 0 _ rfl
      refine ⟨p, by simp only [hd2, if_true]; exact h1, o0 h2, h3, fun i y hy => ?_⟩
      obtain ⟨u, g1, g2, g3⟩ := h4 i y hy
      exact ⟨u, g1, g2.imm0 keep' (all_get hci' hy), g3⟩
    · simp only [List.getElem?_set_ne (Ne.symm hj)] at ho
      exact (h.rel.obj j o ho).same fr2.keep st (fun s => by simp only [hd2, if_neg hj]) (fun b s hb => by
        obtain ⟨e1, e2⟩ := oth hb hj
        exact ⟨e1, by rw [oe e2]⟩)
  · simp only [List.length_set]
    cases hq : own' b with
    | none => rw [on hq] at hb; cases hb
    | some q =>
      cases q with
      | none =>
        rw [oe hq] at hb
        have := h.rel.dom b r hb
        exact ⟨Nat.lt_of_lt_of_le this.1 hfr.size, this.2⟩
      | some q =>
        obtain ⟨j, s⟩ := q
        have := hrel'.dom b _ hq
        cases j with
        | zero => rw [o0 hq] at hb; cases hb; exact ⟨this.1, hkl⟩
        | succ j => simp only [own2, hq] at hb; cases hb
  · exact Nat.lt_of_lt_of_le (h.rel.lt b (fr2.ey b hb)) hfr.size
def MR (P : Program) (f : FuncId) (cs xs : List AV) (Q : List AV → AV → Prop) : Prop := M P f [.st cs] xs [] fun h r => ∃ cs' ext, h = .st cs' :: ext ∧ cs'.all Go.V.imm0 = true ∧ imm r = true ∧ Q cs' r
theorem CallV.of_MR {f : FuncId} {xs : List AV} {K : AV → AS → Prop} (k : Nat) {cs : List AV} {xc : List AV} {Q : List AV → AV → Prop} (hM : MR P f cs xc Q)
    (hk : σ.h[k]? = some (.st cs)) (hci : cs.all Go.V.imm0 = true) (hxc : xs.map (cv σ.h [k] []) = xc) (hp : cvP σ.h [k] xs)
    (hK : ∀ cs' x, Q cs' x → K x ⟨σ.n, σ.l, σ.h.set k (.st cs'), σ.m, σ.e⟩) : CallV P f xs σ K :=
  .of_Mr k hM (fun _ r ⟨cs', ext, h1, h2, h3, h4⟩ => ⟨cs', ext, h1, h2, h3, hK cs' r h4⟩) hk hci hxc hp
/-- A call that only tells, its result told by a relation. -/
def MQ (P : Program) (f : FuncId) (xs : List AV) (Q : AV → Prop) : Prop := M P f [] xs [] fun _ r => imm r = true ∧ Q r
theorem CallV.of_MQ {f : FuncId} {xs : List AV} {K : AV → AS → Prop} {xc : List AV} {Q : AV → Prop} (hM : MQ P f xc Q) (hxc : xs.map (cv σ.h [] []) = xc) (hp : cvP σ.h [] xs)
    (hK : ∀ x, Q x → K x σ) : CallV P f xs σ K :=
  .of_Ms [] hM hxc hp fun _ r hq => ⟨hq.1, hK r hq.2⟩
theorem MQ.shut {f : FuncId} {xs : List AV} {Q : AV → Prop} (hM : M P f [] xs [] fun h0 r0 => ∃ bor x, cvP h0 [] [r0] ∧ cv h0 [] bor r0 = x ∧ imm x = true ∧ Q x) : MQ P f xs Q :=
  M.shut hM fun h0 _ ⟨bor, x, hp, hc, hi, hq⟩ => ⟨[], h0, bor, rfl, rfl, rfl, hp, (show imm (cv h0 [] bor _) = true from hc.symm ▸ hi), hc.symm ▸ hi, hc.symm ▸ hq⟩
theorem MR.shut {f : FuncId} {cs xs : List AV} {Q : List AV → AV → Prop} (hM : M P f [.st cs] xs [] fun h0 r0 => ∃ cs' ext bor x, h0 = .st cs' :: ext ∧ cs'.all Go.V.imm0 = true ∧ cvP h0 [0] [r0] ∧ cv h0 [0] bor r0 = x ∧ imm x = true ∧ Q cs' x)
    : MR P f cs xs Q :=
  M.shut hM fun h0 _ ⟨cs', ext, bor, x, e, ha, hp, hc, hi, hq⟩ => ⟨[.st cs'], ext, bor, e, rfl, by
    have hb : AO.inb 1 (.st cs') = true := List.all_eq_true.2 fun x hx => by
      have := List.all_eq_true.1 ha x hx
      cases x <;> first | rfl | cases this
    exact Bool.and_eq_true_iff.2 ⟨hb, rfl⟩, hp, (show imm (cv h0 [0] bor _) = true from hc.symm ▸ hi), cs', [], rfl, ha, (show imm (cv h0 [0] bor _) = true from hc.symm ▸ hi), (show Q cs' (cv h0 [0] bor _) from hc.symm ▸ hq)⟩
end
end Go.V
