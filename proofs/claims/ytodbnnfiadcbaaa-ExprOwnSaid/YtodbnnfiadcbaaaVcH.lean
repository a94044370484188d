import Derived.Test.YtodbnnfiadcbaaaVcG
import Derived.LoopN
/- Loops. -/
set_option linter.unusedVariables false
set_option linter.unusedSimpArgs false
set_option linter.unusedSectionVars false
namespace Go.V
open Go.RowKit
variable [Wid]

def look : List (Nat × AV) → Nat → Option AV
 | [], _ => none
 | (j, x) :: r, i => bif Nat.beq i j then some x else look r i
def agree (σ : AS) : List (Nat × AV) → Prop
 | [] => True
 | (i, x) :: r => σ.l i = x ∧ agree σ r
def lpl (l : Nat → AV) (ws : Nat → Bool) (L : List (Nat × AV)) : Nat → AV := fun i => match look L i with
 | some x => x
 | none => bif ws i then .junk else (l i).scrub fun _ => false
def AS.lp (σ : AS) (ws : Nat → Bool) (L : List (Nat × AV)) (H : List AO) (m : List Nat) (e : Nat) : AS := ⟨σ.n, lpl σ.l ws L, H, m, e⟩

def AV.inb0 (k : Nat) : AV → Bool
 | .rf r _ _ _ => Nat.blt r.1 k
 | .pt j _ => Nat.blt j k
 | .pe r _ _ _ => Nat.blt r.1 k
 | .mp j => Nat.blt j k
 | .fn _ cs => cs.isEmpty
 | .agg _ | .tup _ => false
 | _ => true
def AV.inb (k : Nat) : AV → Bool
 | .agg cs => cs.all (AV.inb0 k)
 | x => x.inb0 k
def AO.inb (k : Nat) : AO → Bool
 | .st cs => cs.all (AV.inb0 k)
 | _ => true
def fit (L : List (Nat × AV)) (H : List AO) : Bool := L.all (fun p => p.2.inb H.length) && H.all (AO.inb H.length)

section
variable {P : Program} {τ : Tys} {C : Ctx} {w w' : World} {own : Own} {hd : Hd} {σ : AS} {a : Act}

def cut (own : Own) (k : Nat) : Own := fun b => match own b with
 | some (some r) => if r.1 < k then ow r else none
 | some none => ext
 | none => none
theorem cut_some {own : Own} {k b : Nat} {r : Key} (h : cut own k b = ow r) : own b = ow r ∧ r.1 < k := by
 unfold cut at h
 split at h
 ·split at h
  ·cases h; exact ⟨by assumption, by assumption⟩
  ·cases h
 ·cases h
 ·cases h
theorem cut_of {own : Own} {k b : Nat} {r : Key} (h : own b = ow r) (hk : r.1 < k) : cut own k b = ow r := by
 unfold cut; rw [h]; exact if_pos hk
theorem cut_none {own : Own} {k b : Nat} (h : own b = none) : cut own k b = none := by unfold cut; rw [h]
theorem cut_ext {own : Own} {k b : Nat} (h : own b = ext) : cut own k b = ext := by unfold cut; rw [h]
theorem cut_ext' {own : Own} {k b : Nat} (h : cut own k b = ext) : own b = ext := by
 unfold cut at h
 split at h
 ·split at h <;> cases h
 ·assumption
 ·cases h
theorem Keep.cut (w : World) (own : Own) (k : Nat) : Keep w own w (Go.V.cut own k) := ⟨Nat.le_refl _, fun _ _ h => ⟨rfl, cut_none h⟩⟩
theorem Stay.cut (own : Own) (hd : Hd) (k : Nat) : Stay own hd (Go.V.cut own k) hd fun i => Nat.blt i k := fun r b hr hb => ⟨rfl, cut_of hb (Nat.blt_eq.mp hr)⟩

theorem VR.inb0 {k : Nat} {x : AV} {v : Value} (h : VR w own hd x v) (hi : x.inb0 k = true) : VR w (cut own k) hd x v := by
 have := h.keep0 (Keep.cut w own k) (Stay.cut own hd k)
 cases x with
 | rf r z off n => simp only [AV.inb0] at hi; simpa only [AV.scrub0, hi, cond_true] using this
 | pt j off => simp only [AV.inb0] at hi; simpa only [AV.scrub0, hi, cond_true] using this
 | pe r z i off => simp only [AV.inb0] at hi; simpa only [AV.scrub0, hi, cond_true] using this
 | mp j => simp only [AV.inb0] at hi; simpa only [AV.scrub0, hi, cond_true] using this
 | fn f cs =>
  obtain rfl : cs = [] := by simpa [AV.inb0] using hi
  cases h with
  | fn h1 h2 => exact .fn h1 (fun i x v hx => by simp at hx)
 | agg => cases hi
 | tup => cases hi
 | junk => exact .junk
 | nl => exact this
 | t => exact this
 | pT => exact this
theorem all_get {α : Type} {p : α → Bool} {l : List α} (h : l.all p = true) {i : Nat} {x : α} (hx : l[i]? = some x) : p x = true := List.all_eq_true.1 h x (List.mem_of_getElem? hx)
theorem VR.inb {k : Nat} {x : AV} {v : Value} (h : VR w own hd x v) (hi : x.inb k = true) : VR w (cut own k) hd x v := by
 cases x with
 | agg cs =>
  cases h with
  | agg h1 h2 => exact .agg h1 (fun i x v hx hv => (h2 i x v hx hv).inb0 (all_get hi hx))
 | _ => exact h.inb0 hi

theorem ObjAt.inb {k j : Nat} {o : AO} (h : ObjAt w own hd j o) (hj : j < k) (hi : o.inb k = true) : ObjAt w (cut own k) hd j o := by
 cases o with
 | dead => trivial
 | st cs =>
  obtain ⟨q, h1, h2, h3, h4⟩ := h
  exact ⟨q, h1, cut_of h2 hj, h3, fun i x hx => by obtain ⟨v, e1, e2, e3⟩ := h4 i x hx; exact ⟨v, e1, e2.inb0 (all_get hi hx), e3⟩⟩
 | row s els =>
  obtain ⟨h1, h0, h2, h3, h4, h9, h5, h6⟩ := h
  exact ⟨h1, h0, h2, h3, fun q hq => cut_of (h4 q hq) hj, h9, h5, fun q i el j t e1 e2 e3 => by obtain ⟨v, f1, f2⟩ := h6 q i el j t e1 e2 e3; exact ⟨v, f1, f2.keep (Keep.cut w own k)⟩⟩
 | nest z s els => exact NestAt.to h (Keep.cut w own k) (fun _ => rfl) (fun b s ho => ⟨rfl, cut_of ho hj⟩)

theorem agree_get : ∀ {L : List (Nat × AV)} {i : Nat} {x : AV}, agree σ L → look L i = some x → σ.l i = x ∧ ∃ p ∈ L, p.2 = x
 | [], _, _, _, h => by cases h
 | (j, y) :: r, i, x, ha, h => by
  simp only [look] at h
  cases hb : Nat.beq i j with
  | true =>
   rw [hb, cond_true] at h; cases h
   obtain rfl := Nat.eq_of_beq_eq_true hb
   exact ⟨ha.1, _, List.mem_cons_self .., rfl⟩
  | false =>
   rw [hb, cond_false] at h
   obtain ⟨h1, p, hp, h2⟩ := agree_get ha.2 h
   exact ⟨h1, p, List.mem_cons_of_mem _ hp, h2⟩

theorem SX.head {C0 : Ctx} {σ0 : AS} {ws : Nat → Bool} {L : List (Nat × AV)} {H ext : List AO} {m : List Nat} {e : Nat} {a0 : Act} {w0 : World} {own0 : Own} {hd0 : Hd} (h0 : SX C0 own0 hd0 σ0 a0 w0)
 (h : SX C own hd σ a w) (hw : Fr w0 own0 w own) (un : Un ws a0 a) (hl : agree σ L) (hH : σ.h = H ++ ext) (hf : fit L H = true) (hm : sub σ.m m = true) (hen : C.e ≤ H.length) (he : C.e ≤ e) :
 SX C (cut own H.length) hd (σ0.lp ws L H m e) a w ∧ Fr w0 own0 w (cut own H.length) := by
 simp only [fit, Bool.and_eq_true] at hf
 have hlen : ∀ k, k < H.length → σ.h[k]? = H[k]? := fun k hk => by rw [hH]; exact List.getElem?_append_left hk
 have frc : Fr w own w (cut own H.length) := ⟨rfl, rfl, rfl, Nat.le_refl _, fun _ _ h => ⟨rfl, cut_none h⟩, fun _ h => ⟨rfl, cut_ext h⟩, fun _ h => cut_ext' h⟩
 refine ⟨⟨⟨fun k o hk => ?_, fun b r hb => ?_, fun b hb => h.rel.lt b (cut_ext' hb)⟩, h.fr.trans frc, ?_, fun i hi => sub_has hm i (h.gr i hi), he, h.dfr, un.sz.trans h0.size, fun i hi => ?_⟩, hw.trans frc⟩
 ·have hk' : k < H.length := (List.getElem?_eq_some_iff.1 hk).1
  exact (h.rel.obj k o ((hlen k hk').trans hk)).inb hk' (all_get hf.2 hk)
 ·obtain ⟨h1, h2⟩ := cut_some hb
  exact ⟨(h.rel.dom b r h1).1, h2⟩
 ·intro r b hr hb
  simp only [Ctx.um, Bool.and_eq_true] at hr
  obtain ⟨e1, e2⟩ := h.stay r b (by simp only [Ctx.um, hr.1, Bool.true_and]; exact sub_spec hm _ hr.2) hb
  have : r.1 < C.e := Nat.blt_eq.mp hr.1
  exact ⟨e1, cut_of e2 (Nat.lt_of_lt_of_le this hen)⟩
 ·show VR w (cut own H.length) hd (lpl σ0.l ws L i) (a.tmps.getD i undef)
  unfold lpl
  cases hq : look L i with
  | some x =>
   obtain ⟨h1, p, hp, h2⟩ := agree_get hl hq
   have hi' : i < σ.n := by rw [← h.size, un.sz, h0.size]; exact hi
   have := h.slot i hi'
   rw [h1] at this
   exact this.inb (by rw [← h2]; exact List.all_eq_true.1 hf.1 p hp)
  | none =>
   cases hws : ws i with
   | true => exact .junk
   | false =>
    simp only [cond_false]
    rw [un.un i hws]
    exact (h0.slot i hi).keep (hw.trans frc).keep (fun r b hr _ => by cases hr)

theorem Stay.weak {own own' : Own} {hd hd' : Hd} {l m : List Nat} (h : Stay own hd own' hd' (AS.um l)) (hs : sub l m = true) : Stay own hd own' hd' (AS.um m) := fun r b hr hb => h r b (sub_spec hs _ hr) hb

def loopQ {α : Type} (V : α → List (Nat × AV)) (H : α → List AO) (m : List Nat) (μ : α → Nat) (x : α) (Q : Exit → AS → Prop) (e : Exit) (σ' : AS) : Prop :=
 match e with
 | .normal => bif sub σ'.m m then (∃ y, μ y < μ x ∧ agree σ' (V y) ∧ ∃ ext, σ'.h = H y ++ ext) else False
 | e => bif sub m σ'.m then Q e σ' else False

theorem CodeV.loop (hτ : Tab P τ) {α : Type} {c : Code} {Q : Exit → AS → Prop} (V : α → List (Nat × AV)) (H : α → List AO) (m : List Nat) (N : Nat) (μ : α → Nat) (x0 : α)
 (h0 : agree σ (V x0) ∧ ∃ ext, σ.h = H x0 ++ ext) (hm : sub σ.m m = true) (he : Nat.ble σ.e N = true) (hf : ∀ x, (H x).length = N ∧ fit (V x) (H x) = true)
 (round : ∀ x, vCode P τ c (loopQ V H m μ x Q) (σ.lp (wr c) (V x) (H x) m N)) : CodeV P (.loop c) Q σ := by
 refine ⟨fun C own hd a w h => ?_⟩
 have hCN : C.e ≤ N := Nat.le_trans h.le (Nat.le_of_ble_eq_true he)
 obtain ⟨s1, f1⟩ := h.head (ws := wr c) (m := m) (e := N) h (Fr.refl _ _) (Un.refl _ _) h0.1 h0.2.choose_spec (hf x0).2 hm (by rw [(hf x0).1]; exact hCN) hCN
 generalize hown1 : cut own (H x0).length = own1 at s1 f1
 let C' : Ctx := ⟨w, own1, hd, N, []⟩
 have s1' : SX C' own1 hd (σ.lp (wr c) (V x0) (H x0) m N) a w := ⟨s1.rel, Fr.refl _ _, fun r b _ hb => ⟨rfl, hb⟩, fun i hi => (by cases hi), Nat.le_refl _, s1.dfr, s1.size, s1.slot⟩
 have key : ∀ k x a1 w1 own2 hd2, μ x < k → SX C' own2 hd2 (σ.lp (wr c) (V x) (H x) m N) a1 w1 → Un (wr c) a a1 →
  Code.rounds P c (fun e a' w' => ∃ σ' own' hd', SX C own' hd' σ' a' w' ∧ Q e σ' ∧ Un (wr c) a a') k a1 w1 := by
  intro k
  induction k with
  | zero => intro x a1 w1 o1 h1 hk; exact absurd hk (Nat.not_lt_zero _)
  | succ k ih =>
   intro x a1 w1 o2 d2 hk s2 u2
   rw [rounds_succ]
   refine wp_mono ((vCode_ok hτ c _ _ (round x)).run C' o2 d2 a1 w1 s2) fun e a' w' ⟨σ', own', hd', s3, q3, u3⟩ => ?_
   have out : (bif sub m σ'.m then Q e σ' else False) → ∃ σ' own' hd', SX C own' hd' σ' a' w' ∧ Q e σ' ∧ Un (wr c) a a' := fun hq => by
    obtain ⟨g1, g2⟩ := bif_and hq
    exact ⟨σ', own', hd', ⟨s3.rel, s1.fr.trans s3.fr, s1.stay.trans s3.stay (fun i hi => by
     simp only [Ctx.um, Bool.and_eq_true] at hi ⊢
     exact ⟨⟨hi.1, sub_spec g1 i hi.2⟩, Nat.blt_eq.mpr (Nat.lt_of_lt_of_le (Nat.blt_eq.mp hi.1) hCN), hi.2⟩), fun i hi => sub_has g1 i (s1.gr i hi), Nat.le_trans hCN s3.le, s3.dfr, s3.size, s3.slot⟩, g2, u2.trans u3⟩
   cases e with
   | normal =>
    obtain ⟨g1, y, g2, g3, ext, g4⟩ := bif_and q3
    obtain ⟨s4, _⟩ := h.head (ws := wr c) (m := m) (e := N) s3 (f1.trans s3.fr) (u2.trans u3) g3 g4 (hf y).2 g1 (by rw [(hf y).1]; exact Nat.le_refl _) (Nat.le_refl _)
    exact ih y a' w' _ _ (Nat.lt_of_lt_of_le g2 (Nat.le_of_lt_succ hk)) s4 (u2.trans u3)
   | exit i => exact out q3
   | goto i => exact out q3
   | ret => exact out q3
   | panic p => exact out q3
   | outgrown => exact out q3
 exact wp_loop_rounds _ (key (μ x0 + 1) x0 a w own1 hd (Nat.lt_succ_self _) s1' (Un.refl _ _))

end
end Go.V
