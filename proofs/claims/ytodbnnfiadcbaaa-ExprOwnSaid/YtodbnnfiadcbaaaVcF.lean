import Derived.Test.YtodbnnfiadcbaaaVcE
/- Regions, and code. -/
set_option linter.unusedVariables false
set_option linter.unusedSimpArgs false
set_option linter.unusedSectionVars false
namespace Go.V
open Go.RowKit
variable [Wid]

def ArgsR (w : World) (own : Own) (hd : Hd) (xs : List AV) (vs : Array Value) : Prop := CellsR w own hd xs vs

def Ent (P : Program) (f : FuncId) : Prop := ∃ fn c, P.funcs[f]? = some fn ∧ (fn.name == "runtime.NumGoroutine") = false ∧ fn.body = some c

structure CallV (P : Program) (f : FuncId) (xs : List AV) (σ : AS) (K : AV → AS → Prop) : Prop where
 ent : Ent P f
 run : ∀ C own hd a w, SX C own hd σ a w → ∀ vs : Array Value, ArgsR w own hd xs vs →
  Calls P f vs w fun e w' => ∃ v r σ' own' hd', e = .returned v ∧ SX C own' hd' σ' a w' ∧ VR w' own' hd' r v ∧ K r σ'

structure Sp (b : Bool) (p q : Prop) : Prop where
 one : b = true → p
 two : b = false → q
theorem Sp.t {p q : Prop} (h : p) : Sp true p q := ⟨fun _ => h, (fun e => nomatch e)⟩
theorem Sp.f {p q : Prop} (h : q) : Sp false p q := ⟨(fun e => nomatch e), fun _ => h⟩
theorem Sp.d {c p q : Prop} [Decidable c] (h : c → p) (k : ¬ c → q) : Sp (decide c) p q := ⟨fun e => h (of_decide_eq_true e), fun e => k (of_decide_eq_false e)⟩
theorem Sp.e {α : Type} [BEq α] [LawfulBEq α] {x y : α} {p q : Prop} (h : x = y → p) (k : ¬ x = y → q) : Sp (x == y) p q := ⟨fun e => h (eq_of_beq e), fun e => k (fun e' => by subst e'; simp at e)⟩
theorem Sp.ne {α : Type} [BEq α] [LawfulBEq α] {x y : α} {p q : Prop} (h : ¬ x = y → p) (k : x = y → q) : Sp (x != y) p q := ⟨fun e => h (fun e' => by subst e'; simp at e), fun e => k (by simpa using e)⟩
theorem Sp.n {b : Bool} {p q : Prop} (h : Sp b q p) : Sp (!b) p q := ⟨fun e => h.two (by simpa using e), fun e => h.one (by simpa using e)⟩

inductive OK where | q | e | c
def opk : Op → OK
 | .alloc _ | .box .. | .store .. | .build .. | .buildSlice .. | .makeSlice .. => .e
 | .call { callee := .builtin .append, .. } => .e
 | .call { callee := .value _, .. } => .c
 | _ => .q

def vCall (P : Program) (σ : AS) (o : Op) (dst : Option Nat) (K : AS → Prop) : Prop :=
 match o with
 | .call { callee := .value f, args, .. } => match σ.ev f with
  | .fn g cap => CallV P g (args.toList.map σ.ev ++ cap) σ fun r σ' => σ'.set dst r K
  | _ => False
 | _ => False

def vOp (P : Program) (τ : Tys) (σ : AS) (o : Oper) (K : AS → Prop) : Prop :=
 match opk o.op with
 | .q => bif Op.fine o.op then vQ τ σ o.op fun x => σ.set o.dst x K else False
 | .e => vE τ σ o.op o.dst K
 | .c => vCall P σ o.op o.dst K

def vGd (ops : Array Oper) (σ : AS) (o : Oper) (kt kf : AS → Prop) : Prop :=
 match o.guard with
 | none => kt σ
 | some (j, want) => match (ops[j]?).bind (·.dst) with
  | none => False
  | some d => match σ.ev (.tmp d) with
   | .t (.v (.bool b)) => match want with
    | true => Sp b (σ.putK d (.b true) kt) (σ.putK d (.b false) kf)
    | false => Sp b (σ.putK d (.b true) kf) (σ.putK d (.b false) kt)
   | .tup [] => kf σ
   | _ => False

def vOps (P : Program) (τ : Tys) (ops : Array Oper) : List Oper → (AS → Prop) → AS → Prop
 | [], K, σ => K σ
 | o :: r, K, σ => vGd ops σ o (fun σ => vOp P τ σ o (vOps P τ ops r K)) (fun σ => σ.set o.dst (.tup []) (vOps P τ ops r K))

def wrOps : List Oper → Nat → Bool
 | [], _ => false
 | o :: r, i => (match o.dst with | some d => Nat.beq d i | none => false) || wrOps r i
def wr : Code → Nat → Bool
 | .region _ ops _, i => wrOps ops.toList i
 | .seq a b, i => wr a i || wr b i
 | .cond _ a b, i => wr a i || wr b i
 | .block _ c, i => wr c i
 | .loop c, i => wr c i
 | .scope c, i => wr c i
 | _, _ => false

structure Un (ws : Nat → Bool) (a a' : Act) : Prop where
 sz : a'.tmps.size = a.tmps.size
 un : ∀ i, ws i = false → a'.tmps.getD i undef = a.tmps.getD i undef

structure CodeV (P : Program) (c : Code) (Q : Exit → AS → Prop) (σ : AS) : Prop where
 run : ∀ C own hd a w, SX C own hd σ a w →
  c.wp P (fun e a' w' => ∃ σ' own' hd', SX C own' hd' σ' a' w' ∧ Q e σ' ∧ Un (wr c) a a') a w

def vCode (P : Program) (τ : Tys) : Code → (Exit → AS → Prop) → AS → Prop
 | .skip, Q, σ => Q .normal σ
 | .region id ops d, Q, σ => match d with
  | false => vOps P τ ops ops.toList (Q .normal) σ
  | true => CodeV P (.region id ops true) Q σ
 | .seq a b, Q, σ => vCode P τ a (fun e σ' => match e with
  | .normal => vCode P τ b Q σ'
  | e => Q e σ') σ
 | .cond c x y, Q, σ => match c with
  | .tmp d => match σ.ev (.tmp d) with
   | .t (.v (.bool b)) => Sp b (σ.putK d (.b true) fun σ => vCode P τ x Q σ) (σ.putK d (.b false) fun σ => vCode P τ y Q σ)
   | _ => False
  | .const (.bool b) => Sp b (vCode P τ x Q σ) (vCode P τ y Q σ)
  | _ => False
 | .block id c, Q, σ => vCode P τ c (fun e σ' => match e with
  | .exit i => bif Nat.beq i id then Q .normal σ' else Q (.exit i) σ'
  | e => Q e σ') σ
 | .exit id, Q, σ => Q (.exit id) σ
 | .label _, Q, σ => Q .normal σ
 | .goto l, Q, σ => Q (.goto l) σ
 | .ret, Q, σ => Q .ret σ
 | .loop c, Q, σ => CodeV P (.loop c) Q σ
 | .scope c, Q, σ => CodeV P (.scope c) Q σ
 | _, _, _ => False

section
variable {P : Program} {τ : Tys} {C : Ctx} {w : World} {own : Own} {hd : Hd} {σ : AS} {a : Act}

theorem Un.refl (ws : Nat → Bool) (a : Act) : Un ws a a := ⟨rfl, fun _ _ => rfl⟩
theorem Un.trans {ws : Nat → Bool} {a b c : Act} (h : Un ws a b) (k : Un ws b c) : Un ws a c := ⟨k.sz.trans h.sz, fun i hi => (k.un i hi).trans (h.un i hi)⟩
theorem Un.mono {ws us : Nat → Bool} {a b : Act} (h : Un us a b) (hm : ∀ i, ws i = false → us i = false) : Un ws a b := ⟨h.sz, fun i hi => h.un i (hm i hi)⟩
theorem Un.put (a : Act) (d : Option Nat) (v : Value) : Un (fun i => match d with | some d => Nat.beq d i | none => false) a (a.put d v) := by
 refine ⟨?_, fun i hi => ?_⟩
 ·cases d <;> simp [Act.put]
 ·cases d with
  | none => rfl
  | some d =>
   have hne : d ≠ i := fun e => by subst e; simp at hi
   simp only [Act.put, Array.getD_eq_getD_getElem?, Array.getElem?_setIfInBounds_ne hne]

def OpPost (C : Ctx) (o : Oper) (K : AS → Prop) (a a' : Act) (w' : World) : Prop :=
 ∃ σ' own' hd', SX C own' hd' σ' a' w' ∧ K σ' ∧ Un (fun i => match o.dst with | some d => Nat.beq d i | none => false) a a'

theorem vOp_ok (hτ : Tab P τ) (h : SX C own hd σ a w) {o : Oper} {K : AS → Prop} (hK : vOp P τ σ o K) {Q : Exit → Act → World → Prop} :
 o.wp P a w (OpPost C o K a) Q := by
 obtain ⟨dst, op, ty, pos, after, gd⟩ := o
 unfold vOp at hK
 split at hK
 ·obtain ⟨k1, k2⟩ := bif_and hK
  obtain ⟨v, x, hr, hx, hK'⟩ := vQ_ok (P := P) (ty := ty) hτ h k1 k2
  obtain ⟨σ', h1, h2⟩ := h.set hx hK'
  unfold Oper.wp
  rw [hr _ _ _ _ w (Lk.refl _ _ _ _)]
  exact ⟨σ', own, hd, h1, h2, Un.put a dst v⟩
 ·obtain ⟨n, w', v, σ', own', hd', hr, hn, h1, h2⟩ := vE_ok (P := P) (ty := ty) hτ h hK
  unfold Oper.wp
  rw [hr]
  rcases hn with rfl | ⟨rfl, rfl⟩
  ·exact ⟨σ', own', hd', h1, h2, Un.put a dst v⟩
  ·exact ⟨σ', own', hd', h1, h2, Un.put a dst undef⟩
 ·unfold vCall at hK
  split at hK
  ·rename_i f args ats heq
   simp only at heq
   subst heq
   split at hK
   ·rename_i g cap e
    obtain ⟨⟨fn, c, hf, hname, hb⟩, hK⟩ := hK
    have hfv := e ▸ h.ev f
    generalize hq : a.eval f = q at hfv
    cases hfv with
    | @fn _ _ vs g1 g2 =>
     have hargs : ArgsR w own hd (args.toList.map σ.ev ++ cap) (args.map a.eval ++ vs) := by
      refine ⟨by simp [g1], fun i x v hx hv => ?_⟩
      by_cases hi : i < args.size
      ·rw [List.getElem?_append_left (by simpa using hi)] at hx
       rw [Array.getElem?_append_left (by simpa using hi)] at hv
       obtain ⟨y, hy, rfl⟩ := getElem?_map_some hx
       rw [Array.getElem?_map, ← Array.getElem?_toList, hy] at hv
       obtain rfl := Option.some.inj hv
       exact h.ev y
      ·rw [List.getElem?_append_right (by simpa using hi)] at hx
       rw [Array.getElem?_append_right (by simpa using hi)] at hv
       simp only [List.length_map, Array.length_toList, Array.size_map] at hx hv
       exact g2 _ x v hx hv
     have hcall := hK C own hd a w h _ hargs
     have h1 : fn.name ≠ "runtime.NumGoroutine" := by simpa using hname
     have hrun : (execOp a.eval ⟨dst, .call { callee := .value f, args, argTypes := ats }, ty, pos, after, gd⟩).run P w = .ok (.enter g (args.map a.eval ++ vs)) w := by
      simp [execOp, resolve, hq, Deferred.ofValue, invoke, callFunc, hf, h1, hb]
     unfold Oper.wp
     rw [hrun]
     refine hcall.mono fun e' w' ⟨v, r, σ', own', hd', he, hs, hv, hk⟩ => ?_
     subst he
     obtain ⟨σ2, k1, k2⟩ := hs.set hv hk
     exact ⟨σ2, own', hd', k1, k2, Un.put a dst v⟩
   ·exact hK.elim
  ·exact hK.elim

theorem yields_of {ops : Array Oper} {j d : Nat} {b : Bool} (hd' : (ops[j]?).bind (·.dst) = some d) (hlt : d < a.tmps.size) (hv : a.tmps.getD d undef = .bool b) : yielded ops a.tmps j = some b := by
 unfold yielded
 rw [hd']
 rw [Array.getD_eq_getD_getElem?, Array.getElem?_eq_getElem hlt] at hv
 simp only [Option.bind_some, Array.getElem?_eq_getElem hlt]
 simp only [Option.getD_some] at hv
 rw [hv]

theorem ev_lt {d : Nat} {b : Bool} (e : σ.ev (.tmp d) = .t (.v (.bool b))) : d < σ.n := by
 simp only [AS.ev] at e
 cases hq : Nat.blt d σ.n with
 | true => exact Nat.blt_eq.mp hq
 | false => rw [hq] at e; cases e

theorem SX.lit (h : SX C own hd σ a w) {d : Nat} {b : Bool} (e : σ.ev (.tmp d) = .t (.v (.bool b))) : a.tmps.getD d undef = .bool b ∧ SX C own hd (σ.put d (.b b)) a w := by
 have hx := e ▸ h.ev (.tmp d)
 obtain ⟨hv, _⟩ := hx.v'
 refine ⟨hv, h.rel, h.fr, h.stay, h.gr, h.le, h.dfr, h.size, fun i hi => ?_⟩
 simp only [AS.put, upd]
 cases hq : Nat.beq i d with
 | true => obtain rfl := Nat.eq_of_beq_eq_true hq; rw [cond_true, show a.tmps.getD i undef = .bool b from hv]; exact .t (.v rfl)
 | false => exact h.slot i hi

theorem VR.undef {w : World} {own : Own} {hd : Hd} : VR w own hd (.tup []) Go.undef := .tup rfl fun i x v h => by simp at h
theorem vGd_ok (h : SX C own hd σ a w) {ops : Array Oper} {o : Oper} {kt kf : AS → Prop} (hk : vGd ops σ o kt kf) :
 ∃ σ', SX C own hd σ' a w ∧ ((Region.wanted o (yielded ops a.tmps) = true ∧ kt σ') ∨ (Region.wanted o (yielded ops a.tmps) = false ∧ kf σ')) := by
 unfold vGd at hk
 split at hk
 ·rename_i hg; exact ⟨σ, h, .inl ⟨by simp [Region.wanted, hg], hk⟩⟩
 ·rename_i j want hg
  split at hk
  ·exact hk.elim
  ·rename_i d hd2
   split at hk
   ·rename_i b e
    obtain ⟨hv, hlit⟩ := h.lit e
    have hy := yields_of (ops := ops) (j := j) hd2 (by rw [h.size]; exact ev_lt e) hv
    have hw : Region.wanted o (yielded ops a.tmps) = (b == want) := by
     simp only [Region.wanted, hg, hy]
     cases b <;> cases want <;> rfl
    rw [hw]
    split at hk
    ·cases b with
     | true => exact ⟨_, hlit, .inl ⟨rfl, hk.one rfl⟩⟩
     | false => exact ⟨_, hlit, .inr ⟨rfl, hk.two rfl⟩⟩
    ·cases b with
     | true => exact ⟨_, hlit, .inr ⟨rfl, hk.one rfl⟩⟩
     | false => exact ⟨_, hlit, .inl ⟨rfl, hk.two rfl⟩⟩
   ·rename_i e
    refine ⟨σ, h, .inr ⟨?_, hk⟩⟩
    have hx := e ▸ h.ev (.tmp d)
    have hn : yielded ops a.tmps j = none := by
     unfold yielded
     rw [hd2]
     simp only [Option.bind_some]
     have hev : a.eval (.tmp d) = a.tmps.getD d undef := rfl
     rw [hev] at hx
     rw [Array.getD_eq_getD_getElem?] at hx
     cases hq : a.tmps[d]? with
     | none => rfl
     | some v =>
      rw [hq] at hx
      simp only [Option.getD_some] at hx
      cases hx; rfl
    simp only [Region.wanted, hg, hn]
    cases want <;> rfl
   ·exact hk.elim

theorem vOps_ok (hτ : Tab P τ) {ops : Array Oper} {Q : Exit → Act → World → Prop} : ∀ (l : List Oper) (σ : AS) (own : Own) (hd : Hd) (a : Act) (w : World) (K : AS → Prop), SX C own hd σ a w → vOps P τ ops l K σ →
 (∀ σ' own' hd' a' w', SX C own' hd' σ' a' w' → K σ' → Un (wrOps l) a a' → Q .normal a' w') → wpList P ops Q l a w
 | [], σ, own, hd, a, w, K, h, hK, hQ => wpList_nil (hQ σ own hd a w h hK (Un.refl _ _))
 | o :: r, σ, own, hd, a, w, K, h, hK, hQ => by
  have unm : ∀ {a' a2 : Act}, Un (fun i => match o.dst with | some d => Nat.beq d i | none => false) a a' → Un (wrOps r) a' a2 → Un (wrOps (o :: r)) a a2 := fun h1 h2 => ⟨h2.sz.trans h1.sz, fun i hi => by
   simp only [wrOps, Bool.or_eq_false_iff] at hi
   exact (h2.un i hi.2).trans (h1.un i hi.1)⟩
  simp only [vOps] at hK
  obtain ⟨σ1, h1, hor⟩ := vGd_ok h hK
  unfold wpList
  rcases hor with ⟨hw, hk⟩ | ⟨hw, hk⟩
  ·rw [if_pos hw]
   exact .inl (Oper.wp_mono (fun a' w' ⟨σ', own', hd', k1, k2, k3⟩ => vOps_ok hτ r σ' own' hd' a' w' K k1 k2 (fun σ2 o2 h2 a2 w2 q1 q2 q3 => hQ σ2 o2 h2 a2 w2 q1 q2 (unm k3 q3))) (vOp_ok hτ h1 hk))
  ·rw [if_neg (by rw [hw]; simp)]
   obtain ⟨σ2, k1, k2⟩ := h1.set (v := undef) VR.undef hk
   exact vOps_ok hτ r σ2 own hd _ w K k1 k2 (fun σ3 o3 h3 a3 w3 q1 q2 q3 => hQ σ3 o3 h3 a3 w3 q1 q2 (unm (Un.put a o.dst undef) q3))

theorem vCode_ok (hτ : Tab P τ) : ∀ (c : Code) (Q : Exit → AS → Prop) (σ : AS), vCode P τ c Q σ → CodeV P c Q σ := by
 intro c
 induction c with
 | skip => intro Q σ hK; refine ⟨fun C own hd a w h => ?_⟩; exact wp_skip ⟨σ, own, hd, h, hK, Un.refl _ _⟩
 | region id ops d =>
  intro Q σ hK
  cases d with
  | true => exact hK
  | false =>
   refine ⟨fun C own hd a w h => ?_⟩
   exact wp_region_list (vOps_ok hτ _ σ own hd a w _ h hK (fun σ' o' h' a' w' q1 q2 q3 => ⟨σ', o', h', q1, q2, q3⟩))
 | seq x y ihx ihy =>
  intro Q σ hK
  refine ⟨fun C own hd a w h => ?_⟩
  refine wp_seq (wp_mono ((ihx _ _ hK).run C own hd a w h) fun e a' w' ⟨σ', own', hd', k1, k2, k3⟩ => ?_)
  have m1 : Un (wr (.seq x y)) a a' := k3.mono fun i hi => by simp only [wr, Bool.or_eq_false_iff] at hi; exact hi.1
  cases e with
  | normal => exact wp_mono ((ihy _ _ k2).run C own' hd' a' w' k1) fun e2 a2 w2 ⟨σ2, o2, h2, q1, q2, q3⟩ => ⟨σ2, o2, h2, q1, q2, m1.trans (q3.mono fun i hi => by simp only [wr, Bool.or_eq_false_iff] at hi; exact hi.2)⟩
  | _ => exact ⟨σ', own', hd', k1, k2, m1⟩
 | cond c x y ihx ihy =>
  intro Q σ hK
  refine ⟨fun C own hd a w h => ?_⟩
  have mx : ∀ {a' : Act}, Un (wr x) a a' → Un (wr (.cond c x y)) a a' := fun k => k.mono fun i hi => by simp only [wr, Bool.or_eq_false_iff] at hi; exact hi.1
  have my : ∀ {a' : Act}, Un (wr y) a a' → Un (wr (.cond c x y)) a a' := fun k => k.mono fun i hi => by simp only [wr, Bool.or_eq_false_iff] at hi; exact hi.2
  simp only [vCode] at hK
  split at hK
  ·rename_i d
   split at hK
   ·rename_i b e
    obtain ⟨hv, hlit⟩ := h.lit e
    refine wp_cond (t := b) hv ?_
    cases b with
    | true => exact wp_mono ((ihx _ _ (hK.one rfl)).run C own hd a w hlit) fun e2 a2 w2 ⟨σ2, o2, h2, q1, q2, q3⟩ => ⟨σ2, o2, h2, q1, q2, mx q3⟩
    | false => exact wp_mono ((ihy _ _ (hK.two rfl)).run C own hd a w hlit) fun e2 a2 w2 ⟨σ2, o2, h2, q1, q2, q3⟩ => ⟨σ2, o2, h2, q1, q2, my q3⟩
   ·exact hK.elim
  ·rename_i b
   refine wp_cond (t := b) rfl ?_
   cases b with
   | true => exact wp_mono ((ihx _ _ (hK.one rfl)).run C own hd a w h) fun e2 a2 w2 ⟨σ2, o2, h2, q1, q2, q3⟩ => ⟨σ2, o2, h2, q1, q2, mx q3⟩
   | false => exact wp_mono ((ihy _ _ (hK.two rfl)).run C own hd a w h) fun e2 a2 w2 ⟨σ2, o2, h2, q1, q2, q3⟩ => ⟨σ2, o2, h2, q1, q2, my q3⟩
  ·exact hK.elim
 | block id c ih =>
  intro Q σ hK
  refine ⟨fun C own hd a w h => ?_⟩
  refine wp_block (wp_mono ((ih _ _ hK).run C own hd a w h) fun e a' w' ⟨σ', own', hd', k1, k2, k3⟩ => ?_)
  cases e with
  | exit i =>
   simp only [Exit.inBlock]
   cases hb : Nat.beq i id with
   | true => rw [if_pos (Nat.eq_of_beq_eq_true hb)]; simp only [hb, cond_true] at k2; exact ⟨σ', own', hd', k1, k2, k3⟩
   | false => rw [if_neg (fun e => by subst e; simp at hb)]; simp only [hb, cond_false] at k2; exact ⟨σ', own', hd', k1, k2, k3⟩
  | _ => exact ⟨σ', own', hd', k1, k2, k3⟩
 | loop c ih => intro Q σ hK; exact hK
 | scope c ih => intro Q σ hK; exact hK
 | exit id => intro Q σ hK; refine ⟨fun C own hd a w h => ?_⟩; exact wp_exit ⟨σ, own, hd, h, hK, Un.refl _ _⟩
 | label l => intro Q σ hK; refine ⟨fun C own hd a w h => ?_⟩; exact wp_label ⟨σ, own, hd, h, hK, Un.refl _ _⟩
 | goto l => intro Q σ hK; refine ⟨fun C own hd a w h => ?_⟩; exact wp_goto ⟨σ, own, hd, h, hK, Un.refl _ _⟩
 | ret => intro Q σ hK; refine ⟨fun C own hd a w h => ?_⟩; exact wp_ret ⟨σ, own, hd, h, hK, Un.refl _ _⟩
 | _ => intro Q σ hK; exact hK.elim

end
end Go.V
