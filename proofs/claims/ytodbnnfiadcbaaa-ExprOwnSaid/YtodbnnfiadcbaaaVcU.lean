import Derived.Test.YtodbnnfiadcbaaaVcS
/- Loops whose rounds end by closing objects. -/
set_option linter.unusedVariables false
set_option linter.unusedSimpArgs false
set_option linter.unusedSectionVars false
namespace Go.V
open Go.RowKit
variable [Wid]
section
variable {P : Program} {τ : Tys} {C : Ctx} {w w' : World} {own : Own} {hd : Hd} {σ : AS} {a : Act}
theorem CodeV.loopC {α : Type} {c : Code} {Q : Exit → AS → Prop} (V : α → List (Nat × AV)) (H : α → List AO) (m : List Nat) (N : Nat) (μ : α → Nat) (x0 : α)
 (h0 : agree σ (V x0) ∧ ∃ ext, σ.h = H x0 ++ ext) (hm : sub σ.m m = true) (he : Nat.ble σ.e N = true) (hf : ∀ x, (H x).length = N ∧ fit (V x) (H x) = true)
 (round : ∀ x, CodeV P c (loopQ V H m μ x Q) (σ.lp (wr c) (V x) (H x) m N)) : CodeV P (.loop c) Q σ := by
 refine ⟨fun C own hd a w h => ?_⟩
 have hCN : C.e ≤ N := Nat.le_trans h.le (Nat.le_of_ble_eq_true he)
 obtain ⟨s1, f1⟩ := h.head (ws := wr c) (m := m) (e := N) h (Fr.refl _ _) (Un.refl _ _) h0.1 h0.2.choose_spec (hf x0).2 hm (by rw [(hf x0).1]; exact hCN) hCN
 generalize hown1 : cut own (H x0).length = own1 at s1 f1
 let C' : Ctx := ⟨w, own1, hd, N, []⟩
 have s1' : SX C' own1 hd (σ.lp (wr c) (V x0) (H x0) m N) a w := ⟨s1.rel, Fr.refl _ _, fun r b _ hb => ⟨rfl, hb⟩, fun i hi => (by cases hi), Nat.le_refl _, s1.dfr, s1.size, s1.slot⟩
 have key : ∀ k x a1 w1 own2 hd2, μ x < k → SX C' own2 hd2 (σ.lp (wr c) (V x) (H x) m N) a1 w1 → Un (wr c) a a1 →
  Code.rounds P c (fun e a' w' => ∃ σ' own' hd', SX C own' hd' σ' a' w' ∧ Q e σ' ∧ Un (wr c) a a') k a1 w1 := by
  intro k
  induction k with
  | zero => intro x a1 w1 o1 h1 hk; exact absurd hk (Nat.not_lt_zero _)
  | succ k ih =>
   intro x a1 w1 o2 d2 hk s2 u2
   rw [rounds_succ]
   refine wp_mono ((round x).run C' o2 d2 a1 w1 s2) fun e a' w' ⟨σ', own', hd', s3, q3, u3⟩ => ?_
   have out : (bif sub m σ'.m then Q e σ' else False) → ∃ σ' own' hd', SX C own' hd' σ' a' w' ∧ Q e σ' ∧ Un (wr c) a a' := fun hq => by
    obtain ⟨g1, g2⟩ := bif_and hq
    exact ⟨σ', own', hd', ⟨s3.rel, s1.fr.trans s3.fr, s1.stay.trans s3.stay (fun i hi => by
     simp only [Ctx.um, Bool.and_eq_true] at hi ⊢
     exact ⟨⟨hi.1, sub_spec g1 i hi.2⟩, Nat.blt_eq.mpr (Nat.lt_of_lt_of_le (Nat.blt_eq.mp hi.1) hCN), hi.2⟩), fun i hi => sub_has g1 i (s1.gr i hi), Nat.le_trans hCN s3.le, s3.dfr, s3.size, s3.slot⟩, g2, u2.trans u3⟩
   cases e with
   | normal =>
    obtain ⟨g1, y, g2, g3, ext, g4⟩ := bif_and q3
    obtain ⟨s4, _⟩ := h.head (ws := wr c) (m := m) (e := N) s3 (f1.trans s3.fr) (u2.trans u3) g3 g4 (hf y).2 g1 (by rw [(hf y).1]; exact Nat.le_refl _) (Nat.le_refl _)
    exact ih y a' w' _ _ (Nat.lt_of_lt_of_le g2 (Nat.le_of_lt_succ hk)) s4 (u2.trans u3)
   | exit i => exact out q3
   | goto i => exact out q3
   | ret => exact out q3
   | panic p => exact out q3
   | outgrown => exact out q3
 exact wp_loop_rounds _ (key (μ x0 + 1) x0 a w own1 hd (Nat.lt_succ_self _) s1' (Un.refl _ _))

theorem CodeV.conseq {c : Code} {Q Q' : Exit → AS → Prop} (h : CodeV P c Q σ) (hq : ∀ e σ', Q e σ' → ∃ σ'', See σ' σ'' ∧ Q' e σ'') : CodeV P c Q' σ :=
 ⟨fun C own hd a w hx => wp_mono (h.run C own hd a w hx) fun e a' w' ⟨σ', own', hd', s, q, u⟩ => by
  obtain ⟨σ'', hs, q'⟩ := hq e σ' q
  obtain ⟨o2, d2, s2⟩ := hs C own' hd' a' w' s
  exact ⟨σ'', o2, d2, s2, q', u⟩⟩
def AS.cls (σ : AS) : List Nat → AS
 | [] => σ
 | k :: r => (σ.cl k).cls r
def clsOk (σ : AS) : List Nat → Bool
 | [] => true
 | k :: r => Nat.blt k σ.h.length && clsOk (σ.cl k) r
theorem See.cls : ∀ (ks : List Nat) (σ : AS), clsOk σ ks = true → See σ (σ.cls ks)
 | [], σ, _ => fun C own hd a w h => ⟨own, hd, h⟩
 | k :: r, σ, hk => fun C own hd a w h => by
  simp only [clsOk, Bool.and_eq_true] at hk
  obtain ⟨o, d, s⟩ := See.cl k hk.1 C own hd a w h
  exact See.cls r (σ.cl k) hk.2 C o d a w s
def loopS {α : Type} (V : α → List (Nat × AV)) (H : α → List AO) (m : List Nat) (μ : α → Nat) (x : α) (Q : Exit → AS → Prop) : Exit → AS → Prop := fun e σ' => match e with
 | .normal => ∃ ks, clsOk σ' ks = true ∧ loopQ V H m μ x Q .normal (σ'.cls ks)
 | e => loopQ V H m μ x Q e σ'
theorem CodeV.loopS (hτ : Tab P τ) {α : Type} {c : Code} {Q : Exit → AS → Prop} (V : α → List (Nat × AV)) (H : α → List AO) (m : List Nat) (N : Nat) (μ : α → Nat) (x0 : α)
 (h0 : agree σ (V x0) ∧ ∃ ext, σ.h = H x0 ++ ext) (hm : sub σ.m m = true) (he : Nat.ble σ.e N = true) (hf : ∀ x, (H x).length = N ∧ fit (V x) (H x) = true)
 (round : ∀ x, vCode P τ c (Go.V.loopS V H m μ x Q) (σ.lp (wr c) (V x) (H x) m N)) : CodeV P (.loop c) Q σ :=
 .loopC V H m N μ x0 h0 hm he hf fun x => (vCode_ok hτ c _ _ (round x)).conseq fun e σ' hq => by
  cases e with
  | normal => obtain ⟨ks, h1, h2⟩ := hq; exact ⟨_, See.cls ks σ' h1, h2⟩
  | _ => exact ⟨σ', fun C own hd a w h => ⟨own, hd, h⟩, hq⟩
theorem mv_row {k s : Nat} {els els' : List (List T)} {K : AS → Prop} (h : els = els') (hg : (σ.mv k (.row s els')).frc K) : (σ.mv k (.row s els)).frc K := h ▸ hg
end
end Go.V
