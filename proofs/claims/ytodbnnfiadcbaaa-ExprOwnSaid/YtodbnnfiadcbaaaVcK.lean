import Derived.Test.YtodbnnfiadcbaaaVcJ
/- Calls that only tell; rows that are closed; rows that are opened. -/
set_option linter.unusedVariables false
set_option linter.unusedSimpArgs false
set_option linter.unusedSectionVars false
namespace Go.V
open Go.RowKit
variable [Wid]

def imm0 : AV → Bool
 | .t _ | .nl | .junk | .pT _ _ => true
 | _ => false
def imm1 : AV → Bool
 | .agg cs => cs.all imm0
 | x => imm0 x
def imm : AV → Bool
 | .tup cs => cs.all imm1
 | x => imm1 x
def scal0 : AV → Bool
 | .t (.v _) | .nl | .junk => true
 | _ => false
def scal1 : AV → Bool
 | .agg cs => cs.all scal0
 | x => scal0 x
def scal : AV → Bool
 | .tup cs => cs.all scal1
 | x => scal1 x

theorem scal_imm0 {y : AV} (h : scal0 y = true) : imm0 y = true := by
 cases y with
 | t x => rfl
 | nl => rfl
 | junk => rfl
 | _ => cases h
theorem scal_imm1 {y : AV} (h : scal1 y = true) : imm1 y = true := by
 cases y with
 | agg cs => exact List.all_eq_true.2 fun y hy => scal_imm0 (List.all_eq_true.1 h y hy)
 | t x => rfl
 | nl => rfl
 | junk => rfl
 | _ => cases h
theorem scal_imm {y : AV} (h : scal y = true) : imm y = true := by
 cases y with
 | tup cs => exact List.all_eq_true.2 fun y hy => scal_imm1 (List.all_eq_true.1 h y hy)
 | agg cs => exact scal_imm1 (y := .agg cs) h
 | t x => rfl
 | nl => rfl
 | junk => rfl
 | _ => cases h

section
variable {P : Program} {τ : Tys} {C : Ctx} {w w' : World} {own own' : Own} {hd hd' : Hd} {σ : AS} {a : Act}

theorem VR.imm0 (hk : Keep w own w' own') {x : AV} {v : Value} (h : VR w own hd x v) (hi : Go.V.imm0 x = true) : VR w' own' hd' x v := by
 cases h with
 | t h => exact .t (h.keep hk)
 | nl => exact .nl
 | junk => exact .junk
 | pT h1 h2 h3 h4 => exact VR.pT' hk h1 h2 h3 h4
 | _ => cases hi
theorem VR.imm1 (hk : Keep w own w' own') {x : AV} {v : Value} (h : VR w own hd x v) (hi : Go.V.imm1 x = true) : VR w' own' hd' x v := by
 cases x with
 | agg cs => cases h with
  | agg h1 h2 => exact .agg h1 fun i y u hy hu => (h2 i y u hy hu).imm0 hk (all_get hi hy)
 | _ => exact h.imm0 hk hi
theorem VR.imm (hk : Keep w own w' own') {x : AV} {v : Value} (h : VR w own hd x v) (hi : Go.V.imm x = true) : VR w' own' hd' x v := by
 cases x with
 | tup cs => cases h with
  | tup h1 h2 => exact .tup h1 fun i y u hy hu => (h2 i y u hy hu).imm1 hk (all_get hi hy)
 | _ => exact h.imm1 hk hi
theorem VR.scal0 {x : AV} {v : Value} (h : VR w own hd x v) (hi : Go.V.scal0 x = true) : VR w' own' hd' x v := by
 cases h with
 | t h => cases h with
  | v h => exact .t (.v h)
  | _ => cases hi
 | nl => exact .nl
 | junk => exact .junk
 | _ => cases hi
theorem VR.scal1 {x : AV} {v : Value} (h : VR w own hd x v) (hi : Go.V.scal1 x = true) : VR w' own' hd' x v := by
 cases x with
 | agg cs => cases h with
  | agg h1 h2 => exact .agg h1 fun i y u hy hu => (h2 i y u hy hu).scal0 (all_get hi hy)
 | _ => exact h.scal0 hi
theorem VR.scal {x : AV} {v : Value} (h : VR w own hd x v) (hi : Go.V.scal x = true) : VR w' own' hd' x v := by
 cases x with
 | tup cs => cases h with
  | tup h1 h2 => exact .tup h1 fun i y u hy hu => (h2 i y u hy hu).scal1 (all_get hi hy)
 | _ => exact h.scal1 hi

theorem CallV.of_Ms {f : FuncId} {xs : List AV} {K : AV → AS → Prop} (bor : List Nat) {xc : List AV} {Q : List AO → AV → Prop} {mv : List Nat} (hM : M P f [] xc mv Q)
 (hxc : xs.map (cv σ.h [] bor) = xc) (hp : cvP σ.h [] xs)
 (hK : ∀ h' r, Q h' r → (bif bor.isEmpty then imm r else scal r) = true ∧ K r σ) : CallV P f xs σ K := by
 refine ⟨hM.1, fun C own hd a w h vs ha => ?_⟩
 have hrc : Rel (ownC own [] bor) (hdC hd []) [] w := by
  refine ⟨fun j o ho => by simp at ho, fun b r hb => ?_, fun b hb => ?_⟩
  ·obtain ⟨j, s⟩ := r
   obtain ⟨k, h1, h2⟩ := ownC_some hb
   cases h2
  ·rcases ownC_ext' hb with e | ⟨k, s, e, _⟩
   ·exact h.rel.lt b e
   ·exact (h.rel.dom b _ e).1
 have hac : ArgsR w (ownC own [] bor) (hdC hd []) xc vs := by
  rw [← hxc]
  refine ⟨by simpa using ha.1, fun i x v hx hv => ?_⟩
  exact cv_ok h.rel xs vs.toList (by simpa using ha.1) (fun i x v h1 h2 => ha.2 i x v h1 (by simpa using h2)) hp i x v hx (by simpa using hv)
 refine (hM.2 _ _ w vs hrc hac).mono fun e w' ⟨v, r, h', own', hd', he, hrel', hfr, hst, hvr, hq⟩ => ?_
 obtain ⟨hi, hK'⟩ := hK h' r hq
 have hsame : ∀ b r, own b = ow r → w'.heap[b]? = w.heap[b]? := fun b r hb => by
  obtain ⟨k, s⟩ := r
  cases hbk : bor.contains k with
  | true => exact (hfr.blk b (h.rel.dom b _ hb).1 (ownC_bor hb rfl hbk)).1
  | false => exact (hfr.ex b (ownC_oth hb rfl hbk)).1
 have fr2 : Fr w own w' own := ⟨hfr.os, hfr.tape, hfr.output, hfr.size, fun b hb ho => ⟨(hfr.blk b hb (ownC_none ho)).1, ho⟩, fun b ho => ⟨(hfr.ex b (ownC_ext ho)).1, ho⟩, fun b ho => ho⟩
 have st : Stay own hd own hd fun _ => true := fun r b _ hb => ⟨rfl, hb⟩
 have hres : VR w' own hd r v := by
  cases bor with
  | cons => exact hvr.scal hi
  | nil =>
   refine hvr.imm ⟨Nat.le_refl _, fun b hb ho => ⟨rfl, ?_⟩⟩ hi
   cases hq : own b with
   | none => rfl
   | some q =>
    cases q with
    | none => rw [(hfr.ex b (ownC_ext hq)).2] at ho; cases ho
    | some q => obtain ⟨k, s⟩ := q; rw [(hfr.ex b (ownC_oth hq rfl rfl)).2] at ho; cases ho
 exact ⟨v, r, σ, own, hd, he, ⟨⟨fun k o hk => (h.rel.obj k o hk).same fr2.keep st (fun s => rfl) (fun b s hb => ⟨hsame b _ hb, rfl⟩),
  fun b r hb => ⟨Nat.lt_of_lt_of_le (h.rel.dom b r hb).1 hfr.size, (h.rel.dom b r hb).2⟩, fun b hb => Nat.lt_of_lt_of_le (h.rel.lt b hb) hfr.size⟩,
  h.fr.trans fr2, h.stay, h.gr, h.le, h.dfr, h.size, fun i hi => (h.slot i hi).same fr2.keep st⟩, hres, hK'⟩

def MV (P : Program) (f : FuncId) (xs : List AV) (x : AV) : Prop := M P f [] xs [] fun _ r => r = x
theorem CallV.of_MV {f : FuncId} {xs : List AV} {K : AV → AS → Prop} {xc : List AV} {x : AV} (hM : MV P f xc x) (hxc : xs.map (cv σ.h [] []) = xc) (hp : cvP σ.h [] xs) (hi : imm x = true) (hK : K x σ) : CallV P f xs σ K :=
 .of_Ms [] hM hxc hp fun _ _ hq => by subst hq; exact ⟨hi, hK⟩
theorem CallV.of_MVb {f : FuncId} {xs : List AV} {K : AV → AS → Prop} (bor : List Nat) {xc : List AV} {x : AV} (hM : MV P f xc x) (hxc : xs.map (cv σ.h [] bor) = xc) (hp : cvP σ.h [] xs) (hi : scal x = true) (hK : K x σ) : CallV P f xs σ K :=
 .of_Ms bor hM hxc hp fun _ _ hq => by
  subst hq
  refine ⟨?_, hK⟩
  cases bor with
  | cons => exact hi
  | nil =>
   show imm _ = true
   exact scal_imm hi

theorem cl0_imm {lent : List Nat} {x : AV} (h : imm0 x = true) : cl0 lent x = x := by
 cases x <;> first | rfl | cases h
theorem clO_imm {lent : List Nat} {cs : List AV} (h : cs.all imm0 = true) : clO lent (.st cs) = .st cs := by
 show AO.st (cs.map (cl0 lent)) = .st cs
 congr 1
 induction cs with
 | nil => rfl
 | cons c r ih =>
  simp only [List.all_cons, Bool.and_eq_true] at h
  rw [List.map_cons, cl0_imm h.1, ih h.2]

theorem CallV.of_M1 {f : FuncId} {xs : List AV} {K : AV → AS → Prop} (k : Nat) {cs cs' : List AV} {xc : List AV} {x : AV} {Q : List AO → AV → Prop} (hM : M P f [.st cs] xc [] Q)
 (hQ : ∀ h r, Q h r → ∃ ext, h = .st cs' :: ext ∧ r = x) (hk : σ.h[k]? = some (.st cs)) (hci : cs.all Go.V.imm0 = true) (hci' : cs'.all Go.V.imm0 = true)
 (hxc : xs.map (cv σ.h [k] []) = xc) (hp : cvP σ.h [k] xs) (hi : imm x = true) (hK : K x ⟨σ.n, σ.l, σ.h.set k (.st cs'), σ.m, σ.e⟩) : CallV P f xs σ K := by
 refine ⟨hM.1, fun C own hd a w h vs ha => ?_⟩
 have hpk : pos [k] k = some 0 := by simp [pos]
 have hpn : ∀ {j}, j ≠ k → pos [k] j = none := fun {j} hj => by
  have : Nat.beq k j = false := by cases hq : Nat.beq k j with
   | false => rfl
   | true => exact absurd (Nat.eq_of_beq_eq_true hq).symm hj
  simp [pos, this]
 have hkl : k < σ.h.length := (List.getElem?_eq_some_iff.1 hk).1
 have hrc : Rel (ownC own [k] []) (hdC hd [k]) [.st cs] w := by
  refine ⟨fun j o ho => ?_, fun b r hb => ?_, fun b hb => ?_⟩
  ·cases j with
   | zero =>
    obtain rfl := Option.some.inj ho
    rw [← clO_imm (lent := [k]) hci]
    exact clO_ok hpk (h.rel.obj k _ hk)
   | succ j => simp at ho
  ·obtain ⟨j, s⟩ := r
   obtain ⟨k', h1, h2⟩ := ownC_some hb
   refine ⟨(h.rel.dom b _ h1).1, ?_⟩
   by_cases hkk : k' = k
   ·subst hkk; rw [hpk] at h2; cases h2; exact Nat.zero_lt_one
   ·rw [hpn hkk] at h2; cases h2
  ·rcases ownC_ext' hb with e | ⟨k, s, e, _⟩
   ·exact h.rel.lt b e
   ·exact (h.rel.dom b _ e).1
 have hac : ArgsR w (ownC own [k] []) (hdC hd [k]) xc vs := by
  rw [← hxc]
  refine ⟨by simpa using ha.1, fun i x v hx hv => ?_⟩
  exact cv_ok h.rel xs vs.toList (by simpa using ha.1) (fun i x v h1 h2 => ha.2 i x v h1 (by simpa using h2)) hp i x v hx (by simpa using hv)
 refine (hM.2 _ _ w vs hrc hac).mono fun e w' ⟨v, r, h', own', hd', he, hrel', hfr, hst, hvr, hq⟩ => ?_
 obtain ⟨ext', rfl, rfl⟩ := hQ h' r hq
 let own2 : Own := fun b => match own' b with
  | some (some (0, s)) => ow (k, s)
  | some (some _) => none
  | some none => own b
  | none => none
 let hd2 : Hd := fun r => if r.1 = k then hd' (0, r.2) else hd r
 have o0 : ∀ {b s}, own' b = ow (0, s) → own2 b = ow (k, s) := fun {b s} hb => by simp only [own2, hb]
 have on : ∀ {b}, own' b = none → own2 b = none := fun {b} hb => by simp only [own2, hb]
 have oe : ∀ {b}, own' b = ext → own2 b = own b := fun {b} hb => by simp only [own2, hb]
 have mine : ∀ {b s}, own b = ow (k, s) → own' b = ow (0, s) ∧ hd' (0, s) = hd (k, s) := fun {b s} hb => by
  obtain ⟨e1, e2⟩ := hst (0, s) b (by rfl) (ownC_lent hb hpk)
  exact ⟨e2, by rw [e1, hdC_pos hpk]⟩
 have oth : ∀ {b j s}, own b = ow (j, s) → j ≠ k → w'.heap[b]? = w.heap[b]? ∧ own' b = ext := fun {b j s} hb hj => hfr.ex b (ownC_oth hb (hpn hj) rfl)
 have st : Stay own hd own2 hd2 fun _ => true := fun r b _ hb => by
  obtain ⟨j, s⟩ := r
  by_cases hj : j = k
  ·subst hj
   obtain ⟨e1, e2⟩ := mine hb
   exact ⟨by simp only [hd2, if_true]; exact e2, o0 e1⟩
  ·obtain ⟨_, e2⟩ := oth hb hj
   exact ⟨by simp only [hd2, if_neg hj], by rw [oe e2]; exact hb⟩
 have fr2 : Fr w own w' own2 := ⟨hfr.os, hfr.tape, hfr.output, hfr.size, fun b hb ho => by
  obtain ⟨e1, e2⟩ := hfr.blk b hb (ownC_none ho)
  exact ⟨e1, on e2⟩, fun b ho => by
  obtain ⟨e1, e2⟩ := hfr.ex b (ownC_ext ho)
  exact ⟨e1, by rw [oe e2]; exact ho⟩, fun b ho => by
  cases hq : own' b with
  | none => rw [on hq] at ho; cases ho
  | some q =>
   cases q with
   | none => rw [oe hq] at ho; exact ho
   | some q =>
    obtain ⟨j, s⟩ := q
    cases j with
    | zero => rw [o0 hq] at ho; cases ho
    | succ j => simp only [own2, hq] at ho; cases ho⟩
 have keep' : Keep w' own' w' own2 := ⟨Nat.le_refl _, fun b _ ho => ⟨rfl, on ho⟩⟩
 refine ⟨v, r, ⟨σ.n, σ.l, σ.h.set k (.st cs'), σ.m, σ.e⟩, own2, hd2, he, ⟨⟨fun j o ho => ?_, fun b r hb => ?_, fun b hb => ?_⟩, h.fr.trans fr2, h.stay.trans st (fun i hi => ⟨hi, rfl⟩), h.gr, h.le, h.dfr, h.size, fun i hi => (h.slot i hi).same fr2.keep st⟩, hvr.imm keep' hi, hK⟩
 ·by_cases hj : j = k
  ·subst hj
   simp only [List.getElem?_set_self hkl] at ho
   obtain rfl := Option.some.inj ho
   obtain ⟨p, h1, h2, h3, h4⟩ := hrel'.obj 0 _ rfl
   refine ⟨p, by simp only [hd2, if_true]; exact h1, o0 h2, h3, fun i y hy => ?_⟩
   obtain ⟨u, g1, g2, g3⟩ := h4 i y hy
   exact ⟨u, g1, g2.imm0 keep' (all_get hci' hy), g3⟩
  ·simp only [List.getElem?_set_ne (Ne.symm hj)] at ho
   exact (h.rel.obj j o ho).same fr2.keep st (fun s => by simp only [hd2, if_neg hj]) (fun b s hb => by
    obtain ⟨e1, e2⟩ := oth hb hj
    exact ⟨e1, by rw [oe e2]⟩)
 ·simp only [List.length_set]
  cases hq : own' b with
  | none => rw [on hq] at hb; cases hb
  | some q =>
   cases q with
   | none =>
    rw [oe hq] at hb
    have := h.rel.dom b r hb
    exact ⟨Nat.lt_of_lt_of_le this.1 hfr.size, this.2⟩
   | some q =>
    obtain ⟨j, s⟩ := q
    have := hrel'.dom b _ hq
    cases j with
    | zero => rw [o0 hq] at hb; cases hb; exact ⟨this.1, hkl⟩
    | succ j => simp only [own2, hq] at hb; cases hb
 ·exact Nat.lt_of_lt_of_le (h.rel.lt b (fr2.ey b hb)) hfr.size

def MM (P : Program) (f : FuncId) (cs xs cs' : List AV) (x : AV) : Prop := M P f [.st cs] (.pt 0 0 :: xs) [] fun h r => (∃ ext, h = .st cs' :: ext) ∧ r = x
theorem CallV.of_MM {f : FuncId} {xs : List AV} {K : AV → AS → Prop} (k : Nat) {cs cs' : List AV} {xc : List AV} {x : AV} (hM : MM P f cs xc cs' x)
 (hk : σ.h[k]? = some (.st cs)) (hci : cs.all Go.V.imm0 = true) (hci' : cs'.all Go.V.imm0 = true)
 (hxc : xs.map (cv σ.h [k] []) = .pt 0 0 :: xc) (hp : cvP σ.h [k] xs) (hi : imm x = true) (hK : K x ⟨σ.n, σ.l, σ.h.set k (.st cs'), σ.m, σ.e⟩) : CallV P f xs σ K :=
 .of_M1 k hM (fun _ _ ⟨⟨ext, h1⟩, h2⟩ => ⟨ext, h1, h2⟩) hk hci hci' hxc hp hi hK

def See (σ σ' : AS) : Prop := ∀ C own hd a w, SX C own hd σ a w → ∃ own' hd', SX C own' hd' σ' a w
theorem CodeV.see {c : Code} {Q : Exit → AS → Prop} {σ' : AS} (hs : See σ σ') (h : CodeV P c Q σ') : CodeV P c Q σ :=
 ⟨fun C own hd a w hx => by obtain ⟨own', hd', h'⟩ := hs C own hd a w hx; exact h.run C own' hd' a w h'⟩

def AS.fz (σ : AS) (k : Nat) (V : List (Nat × AV)) : AS :=
 ⟨σ.n, fun i => match look V i with | some x => x | none => (σ.l i).scrub (nk k), (σ.h.map (AO.scrub (nk k))).set k .dead, k :: σ.m, σ.e⟩
def fzOk (σ : AS) (k : Nat) : List (Nat × AV) → Prop
 | [] => True
 | (i, x) :: r => cv0 σ.h [] [k] (σ.l i) = x ∧ imm0 x = true ∧ cvP0 σ.h [] (σ.l i) ∧ fzOk σ k r
theorem fzOk_get {k : Nat} : ∀ {V : List (Nat × AV)}, fzOk σ k V → ∀ {i : Nat} {x : AV}, look V i = some x → cv0 σ.h [] [k] (σ.l i) = x ∧ imm0 x = true ∧ cvP0 σ.h [] (σ.l i)
 | [], _, _, _, h => by cases h
 | (j, y) :: r, hV, i, x, h => by
  simp only [look] at h
  cases hb : Nat.beq i j with
  | true =>
   rw [hb, cond_true] at h; cases h
   obtain rfl := Nat.eq_of_beq_eq_true hb
   exact ⟨hV.1, hV.2.1, hV.2.2.1⟩
  | false => rw [hb, cond_false] at h; exact fzOk_get hV.2.2.2 h
def SeeK (σ σ' : AS) : Prop := ∀ C own hd a w, SX C own hd σ a w → ∃ own' hd', SX C own' hd' σ' a w ∧ Keep w own w own'
theorem SeeK.close (k : Nat) (V : List (Nat × AV)) (hk : Nat.blt k σ.h.length = true) (hV : fzOk σ k V) : SeeK σ (σ.fz k V) := fun C own hd a w h => by
 let own1 : Own := fun b => match own b with
  | some (some r) => if r.1 = k then none else ow r
  | some none => ext
  | none => none
 have on : ∀ {b}, own b = none → own1 b = none := fun {b} hb => by show (match own b with | some (some r) => if r.1 = k then none else ow r | some none => ext | none => none) = _; rw [hb]
 have oe : ∀ {b}, own b = ext → own1 b = ext := fun {b} hb => by show (match own b with | some (some r) => if r.1 = k then none else ow r | some none => ext | none => none) = _; rw [hb]
 have oo : ∀ {b r}, own b = ow r → own1 b = if r.1 = k then none else ow r := fun {b r} hb => by show (match own b with | some (some r) => if r.1 = k then none else ow r | some none => ext | none => none) = _; rw [hb]
 have back : ∀ {b r}, own1 b = ow r → own b = ow r := fun {b r} hb => by
  cases hq : own b with
  | none => rw [on hq] at hb; cases hb
  | some q =>
   cases q with
   | none => rw [oe hq] at hb; cases hb
   | some q =>
    rw [oo hq] at hb
    split at hb
    ·cases hb
    ·exact hb
 have backe : ∀ {b}, own1 b = ext → own b = ext := fun {b} hb => by
  cases hq : own b with
  | none => rw [on hq] at hb; cases hb
  | some q =>
   cases q with
   | none => rfl
   | some q =>
    rw [oo hq] at hb
    split at hb <;> cases hb
 have fr : Fr w own w own1 := ⟨rfl, rfl, rfl, Nat.le_refl _, fun b _ h => ⟨rfl, on h⟩, fun b h => ⟨rfl, oe h⟩, fun b h => backe h⟩
 have st : Stay own hd own1 hd (nk k) := fun r b hr hb => ⟨rfl, by rw [oo hb, if_neg (nk_ne hr)]⟩
 have s1 := h.move k (o := .dead) (Nat.blt_eq.mp hk) fr st (fun _ _ _ => rfl) (fun b r hb hr => ⟨rfl, by rw [oo hb, if_neg hr, hb]⟩) trivial
  (fun b r hb => h.rel.dom b r (back hb)) (fun b hb => h.rel.lt b (backe hb))
 refine ⟨own1, hd, ⟨s1.rel, s1.fr, s1.stay, s1.gr, s1.le, s1.dfr, s1.size, fun i hi => ?_⟩, fr.keep⟩
 show VR w own1 hd (match look V i with | some x => x | none => (σ.l i).scrub (nk k)) _
 cases hq : look V i with
 | none => exact s1.slot i hi
 | some x =>
  obtain ⟨e, g1, g2⟩ := fzOk_get hV hq
  have hx := cv0_ok (lent := []) (bor := [k]) h.rel (h.slot i hi) g2
  rw [e] at hx
  refine hx.imm0 ⟨Nat.le_refl _, fun b hb ho => ⟨rfl, ?_⟩⟩ g1
  cases hq : own b with
  | none => exact on hq
  | some q =>
   cases q with
   | none => rw [ownC_ext hq] at ho; cases ho
   | some q =>
    obtain ⟨k', s⟩ := q
    rw [oo hq]
    by_cases hkk : k' = k
    ·exact if_pos hkk
    ·rw [ownC_oth (lent := []) (bor := [k]) hq rfl (by simpa using hkk)] at ho; cases ho

theorem See.close (k : Nat) (V : List (Nat × AV)) (hk : Nat.blt k σ.h.length = true) (hV : fzOk σ k V) : See σ (σ.fz k V) := fun C own hd a w h => by
 obtain ⟨o, d, s, _⟩ := SeeK.close k V hk hV C own hd a w h
 exact ⟨o, d, s⟩
theorem CallV.see {f : FuncId} {xs : List AV} {K : AV → AS → Prop} {σ' : AS} (hs : SeeK σ σ') (hx : xs.all imm = true) (h : CallV P f xs σ' K) : CallV P f xs σ K :=
 ⟨h.ent, fun C own hd a w hσ vs ha => by
  obtain ⟨own', hd', s, hk⟩ := hs C own hd a w hσ
  exact h.run C own' hd' a w s vs ⟨ha.1, fun i x v h1 h2 => (ha.2 i x v h1 h2).imm hk (all_get hx h1)⟩⟩

theorem See.open (i : Nat) (s : Nat) (hi : σ.l i = .nl) (hn : Nat.blt i σ.n = true) : See σ ((σ.new (.row s [])).put i (.rf (σ.h.length, none) s 0 0)) := fun C own hd a w h => by
 have hx := h.slot i (Nat.blt_eq.mp hn)
 have hv : ∃ ad, a.tmps.getD i undef = .slice ad 0 0 := by
  rw [hi] at hx; generalize a.tmps.getD i undef = v at hx; cases hx; exact ⟨_, rfl⟩
 obtain ⟨ad, hv⟩ := hv
 obtain ⟨own', hd', s1, v1⟩ := h.new_nil s ad
 refine ⟨own', hd', s1.rel, s1.fr, s1.stay, s1.gr, s1.le, s1.dfr, s1.size, fun j hj => ?_⟩
 simp only [AS.put, upd]
 cases hq : Nat.beq j i with
 | true => obtain rfl := Nat.eq_of_beq_eq_true hq; rw [cond_true, hv]; exact v1
 | false => exact s1.slot j hj

theorem pos_range {n k : Nat} (h : k < n) : pos (List.range n) k = some k := by
 have gen : ∀ (m a k : Nat), a ≤ k → k < a + m → pos (List.range' a m) k = some (k - a) := by
  intro m
  induction m with
  | zero => intro a k h1 h2; omega
  | succ m ih =>
   intro a k h1 h2
   rw [List.range'_succ]
   unfold pos
   cases hq : Nat.beq a k with
   | true => obtain rfl := Nat.eq_of_beq_eq_true hq; simp
   | false =>
    have hne : a ≠ k := fun e => by subst e; simp at hq
    rw [cond_false, ih (a + 1) k (by omega) (by omega)]
    simp only [Option.some.injEq]; omega
 rw [List.range_eq_range']
 have := gen n 0 k (Nat.zero_le _) (by omega)
 simpa using this
theorem pos_range_none {n k : Nat} (h : pos (List.range n) k = none) : ¬ k < n := fun hk => by rw [pos_range hk] at h; cases h

theorem M.shut {f : FuncId} {h : List AO} {xs : List AV} {mv : List Nat} {Q Q' : List AO → AV → Prop} (hM : M P f h xs mv Q)
 (hq : ∀ h0 r0, Q h0 r0 → ∃ H ext bor, h0 = H ++ ext ∧ H.length = h.length ∧ H.all (AO.inb h.length) = true ∧ cvP h0 (List.range h.length) [r0] ∧
  imm (cv h0 (List.range h.length) bor r0) = true ∧ Q' H (cv h0 (List.range h.length) bor r0)) : M P f h xs mv Q' := by
 refine ⟨hM.1, fun own hd w vs hr ha => (hM.2 own hd w vs hr ha).mono fun e w' ⟨v, r, h0, own', hd', he, g1, g2, g3, g4, g5⟩ => ?_⟩
 obtain ⟨H, ex, bor, rfl, hl, hi, hp, hm, hQ⟩ := hq h0 r g5
 have frc : Fr w' own' w' (cut own' h.length) := ⟨rfl, rfl, rfl, Nat.le_refl _, fun _ _ h => ⟨rfl, cut_none h⟩, fun _ h => ⟨rfl, cut_ext h⟩, fun _ h => cut_ext' h⟩
 refine ⟨v, _, H, cut own' h.length, hd', he, ⟨fun k o hk => ?_, fun b q hb => ?_, fun b hb => g1.lt b (cut_ext' hb)⟩, g2.trans frc, fun q b hq hb => ?_, ?_, hQ⟩
 ·have hk' : k < H.length := (List.getElem?_eq_some_iff.1 hk).1
  exact (g1.obj k o (by rw [List.getElem?_append_left hk']; exact hk)).inb (by omega) (all_get hi hk)
 ·obtain ⟨h1, h2⟩ := cut_some hb
  exact ⟨(g1.dom b q h1).1, by omega⟩
 ·obtain ⟨e1, e2⟩ := g3 q b hq hb
  exact ⟨e1, cut_of e2 (hr.dom b q hb).2⟩
 ·have hv := cv_ok (lent := List.range h.length) (bor := bor) g1 [r] [v] rfl (fun i x u h1 h2 => by
   cases i with
   | zero => cases h1; cases h2; exact g4
   | succ i => simp at h1) hp 0 _ v rfl rfl
  refine hv.imm ⟨Nat.le_refl _, fun b hb ho => ⟨rfl, ?_⟩⟩ hm
  cases hq : own' b with
  | none => exact cut_none hq
  | some q =>
   cases q with
   | none => rw [ownC_ext hq] at ho; cases ho
   | some q =>
    obtain ⟨k, s⟩ := q
    cases hpk : pos (List.range h.length) k with
    | some j => rw [ownC_lent hq hpk] at ho; cases ho
    | none =>
     have := pos_range_none hpk
     unfold cut
     rw [hq]
     exact if_neg this

theorem MV.shut {f : FuncId} {xs : List AV} {x : AV} (hi : imm x = true) (hM : M P f [] xs [] fun h0 r0 => ∃ bor, cvP h0 [] [r0] ∧ cv h0 [] bor r0 = x) : MV P f xs x :=
 M.shut hM fun h0 _ ⟨bor, hp, hc⟩ => ⟨[], h0, bor, rfl, rfl, rfl, hp, (show imm (cv h0 [] bor _) = true from hc.symm ▸ hi), hc⟩

theorem MV.of_below {f : FuncId} {xs : List AV} {x : AV} (he : Ent P f) (h : ∀ own hd w vs, ArgsR w own hd xs vs → Calls P f vs w fun e w' => ∃ v, e = .returned v ∧ Below w.heap.size w w' ∧ VR w' own hd x v) : MV P f xs x :=
 ⟨he, fun own hd w vs hr ha => (h own hd w vs ha).mono fun e w' ⟨v, h1, h2, h3⟩ =>
  ⟨v, x, [], own, hd, h1, ⟨fun k o hk => by simp at hk, fun b r hb => by have := (hr.dom b r hb).2; simp at this, fun b hb => Nat.lt_of_lt_of_le (hr.lt b hb) h2.size⟩,
   ⟨h2.os, h2.tape, h2.output, h2.size, fun b hb ho => ⟨h2.block b hb, ho⟩, fun b ho => ⟨h2.block b (hr.lt b ho), ho⟩, fun b ho => ho⟩, fun r b _ hb => ⟨rfl, hb⟩, h3, rfl⟩⟩
theorem MV.calls {f : FuncId} {xs : List AV} {v : Value} (h : MV P f xs (.t (.v v))) {w : World} {vs : Array Value} (ha : ArgsR w (fun _ => none) (fun _ => (none, 0)) xs vs) :
 Calls P f vs w fun e w' => e = .returned v ∧ Below w.heap.size w w' :=
 (h.2 (fun _ => none) (fun _ => (none, 0)) w vs ⟨fun k o hk => (by simp at hk), fun b r hb => (by cases hb), fun b hb => (by cases hb)⟩ ha).mono fun e w' ⟨u, r, h', own', hd', h1, h2, h3, h4, h5, h6⟩ => by
  subst h6
  obtain ⟨rfl, _⟩ := h5.v'
  exact ⟨h1, ⟨h3.os, h3.tape, h3.output, h3.size, fun k hk => (h3.blk k hk rfl).1⟩⟩

end
end Go.V
