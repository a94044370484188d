/- What a statement's proof needs: walks of the program's functions, and what they tell (part 4). -/
import Derived.Test.YtodbnnfiadcbaaaC5d50699037
import Derived.Deep.Cut
import Derived.Deep.CutBlock
import Derived.Deep.LoopGhost
import Derived.KernelRfl
namespace Go.Proofs.Ytodbnnfiadcbaaa.P
open Go.RowKit Go.Proofs.YtodbnnfiadcbaaaW.PrintWords Go.Proofs.YtodbnnfiadcbaaaW.PrintLast Go.Proofs.YtodbnnfiadcbaaaW.PrintMore Go.Proofs.YtodbnnfiadcbaaaH
attribute [local go_sem] max2_int min2_int max_two min_two max_three min_three max_four min_four   -- for this text's walks alone
set_option linter.unusedVariables false
set_option linter.unusedSimpArgs false

/-! ### expr_join: function 70 -/
def expr_join.l0 : Nat → List Bool → List Bool → Int → Int → Option (List Bool)
 | 0, _, _, _, _ => none
 | k + 1, x0, x6, x7, x8 => if x8 < x7 then (if 0 ≤ x8 then (if x8 < (x6.length : Int) then (if x8 < (x0.length : Int) then (if rdOf false x0 x8 = true then (expr_join.l0 k (x0.set (x8 : Int).toNat true) x6 x7 (wrap64 (x8 + 1))) else (expr_join.l0 k (x0.set (x8 : Int).toNat (rdOf false x6 x8)) x6 x7 (wrap64 (x8 + 1)))) else (none)) else (none)) else (none)) else (some x0)
def expr_join.f (k : Nat) (l0 : List Bool) (l1 : List Bool) : Option (List Bool) := expr_join.l0 k l0 l1 (l1.length : Int) 0
theorem expr_join.mono_l : ∀ k, (∀ y0 y1 y2 y3, LeO (expr_join.l0 k y0 y1 y2 y3) (expr_join.l0 (k + 1) y0 y1 y2 y3))
 | 0 => fun _ _ _ _ r h => by simp [expr_join.l0] at h
 | k + 1 => by
  have ih0 := expr_join.mono_l k
  ·intro y0 y1 y2 y3
   unfold expr_join.l0
   repeat' first
   | (with_reducible exact ih0 _ _ _ _)
   | (with_reducible exact LeO.refl _)
   | (with_reducible refine LeO.ite ?_ ?_)
theorem expr_join.mono : ∀ a0 a1 k, LeO (expr_join.f k a0 a1) (expr_join.f (k + 1) a0 a1) := by
 intro a0 a1 k
 have ih0 := expr_join.mono_l k
 unfold expr_join.f
 repeat' first
   | (with_reducible exact ih0 _ _ _ _)
set_option maxHeartbeats 8000000 in
set_option maxRecDepth 100000 in
theorem expr_join.calls (k : Nat) (P0_ : Nat → Prop) (u9000_ : Value) (l0 : List Bool) (A1 : Option Addr) (c1 : Nat) (l1 : List Bool) (r : List Bool) (w0 w : World) (hB : Below w0.heap.size w0 w) (ho0 : Kd.R Kd.bool 4 w w0.heap.size P0_ u9000_ l0) (hr1 : ∀ W_, Kept w W_ (fun k_ => P0_ k_) → Kd.C Kd.bool W_ A1 l1.length l1) (hc1 : l1.length ≤ c1) (h : expr_join.f k l0 l1 = some r) :
  Calls Try.prog 70 #[u9000_, .slice A1 l1.length c1] w fun e w' => e = .returned (.tuple #[]) ∧ Kd.R Kd.bool 4 w' w0.heap.size (fun k_ => (P0_ k_ ∨ w.heap.size ≤ k_)) u9000_ r ∧ Below w0.heap.size w0 w' ∧ Kept w w' (fun k_ => P0_ k_) := by
 have HO0 := M0 (show Kd.R Kd.bool 4 w w0.heap.size (fun k_ => (P0_ k_ ∨ w.heap.size ≤ k_)) u9000_ l0 from Kd.R_mono ho0 (fun k_ hk => (.inl hk)))
 have HR1 := M0 hr1
 clear hr1 hc1
 have HK := M0 (Kept.refl w (fun k_ => P0_ k_))
 have HB := M0 hB
 clear hB
 have H : (expr_join.l0 k l0 l1 (l1.length : Int) 0) = some r := h
 clear h
 have H' := M0 H
 clear H
 go_enter Try.func70, Try.ntmps70
 go_wp2
 go_loopg [8] k (fun kq v8 w' => ∃ (x0_1 : List Bool) (x8_1 : Int), v8 = .int .i64 x8_1 ∧ Aside0 (expr_join.l0 kq x0_1 l1 (l1.length : Int) x8_1 = some r) ∧ Aside0 (kq ≤ k) ∧ Aside0 (Kd.R Kd.bool 4 w' w0.heap.size (fun k_ => (P0_ k_ ∨ w.heap.size ≤ k_)) u9000_ x0_1) ∧ Aside0 (Kept w w' (fun k_ => P0_ k_)) ∧ Aside0 (Below w0.heap.size w0 w'))
 case atStart => exact ⟨(l0), (0), (by rfl), H', ⟨Nat.le_refl _⟩, ⟨by exact HO0.out⟩, ⟨by with_reducible exact HK.out⟩, ⟨by with_reducible exact HB.out⟩⟩
 case round =>
  clear H'
  obtain ⟨x0_1, x8_1, rfl, HA, HK1, HO_0, HK, HB⟩ := hrel
  cases gk with
  | zero => exact absurd HA.out (by simp [expr_join.l0])
  | succ k1 =>
   have H := HA.out
   clear HA
   simp only [expr_join.l0] at H
   by_cases c3 : x8_1 < (l1.length : Int)
   ·rw [if_pos c3] at H
    have c3b0 := decide_eq_true c3
    clear c3
    by_cases c4 : 0 ≤ x8_1
    ·rw [if_pos c4] at H
     have c4b0 := decide_eq_true c4
     clear c4
     by_cases c5 : x8_1 < (l1.length : Int)
     ·rw [if_pos c5] at H
      have c5b0 := decide_eq_true c5
      clear c5
      by_cases c6 : x8_1 < (x0_1.length : Int)
      ·rw [if_pos c6] at H
       have c6b0 := decide_eq_true c6
       clear c6
       obtain ⟨bq7, hbq7⟩ : ∃ b_ : Bool, b_ = (rdOf false x0_1 x8_1) := ⟨_, rfl⟩
       replace H : (if bq7 = true then (expr_join.l0 k1 (x0_1.set (x8_1 : Int).toNat true) l1 (l1.length : Int) (wrap64 (x8_1 + 1))) else (expr_join.l0 k1 (x0_1.set (x8_1 : Int).toNat (rdOf false l1 x8_1)) l1 (l1.length : Int) (wrap64 (x8_1 + 1)))) = some r := by rw [← hbq7] at H; exact H
       have Nbq7 := M0 hbq7
       clear hbq7
       by_cases c8 : bq7 = true
       ·subst c8
        rw [if_pos rfl] at H
        obtain ⟨y706, hy706⟩ : ∃ y_ : List Bool, y_ = (x0_1.set (x8_1 : Int).toNat true) := ⟨_, rfl⟩
        replace H : (expr_join.l0 k1 y706 l1 (l1.length : Int) (wrap64 (x8_1 + 1))) = some r := by (rw [hy706]; with_reducible exact H)
        have Ny706 := M0 hy706
        clear hy706
        have H' := M0 H
        clear H
        have p704 : 0 ≤ (x8_1 : Int) := of_decide_eq_true (by (with_reducible assumption))
        have q704 : x8_1 < (l1.length : Int) := of_decide_eq_true (by (with_reducible assumption))
        obtain ⟨ad704, e704, hx704_0⟩ := Kd.at_bool (Kd.C_kept_now HR1.out HK.out) x8_1 p704 q704
        (skip)
        cases e704
        replace p704 := eq_true p704
        replace q704 := eq_true q704
        obtain ⟨Ao10, co10, eo10⟩ := Kd.R_slice HO_0.out
        subst eo10
        have p705 : 0 ≤ (x8_1 : Int) := of_decide_eq_true (by (with_reducible assumption))
        have q705 : x8_1 < (x0_1.length : Int) := of_decide_eq_true (by (with_reducible assumption))
        obtain ⟨ad705, e705, hx705_0⟩ := Kd.at_bool (Kd.R_reads' HO_0.out).2.2 x8_1 p705 q705
        (rw [← Nbq7.out] at hx705_0)
        cases e705
        clear p705
        replace q705 := eq_true q705
        have p9 : 0 ≤ (x8_1 : Int) := of_decide_eq_true (by (with_reducible assumption))
        have q9 : (x8_1 : Int) < ((x0_1.length : Int) : Int) := of_decide_eq_true (by (with_reducible assumption))
        obtain ⟨go9, co9, eo9, gb9, gl9, cl9, HG9⟩ := Kd.R_form HO_0.out (by omega)
        (cases eo9)
        have GB9 := M0 gb9
        clear gb9 gl9 HG9
        (simp only [add_plain] at hx705_0)
        obtain ⟨hx9_0, hf9_0⟩ := Kd.R_celln false HO_0.out (x8_1 : Int) p9 q9
        clear p9
        clear q9
        have HP11 := Kd.R_putg HO_0.out (x8_1 : Int) true
        go_wp2_with (((with_reducible refine gate_store (t := 4) (p := 22) rfl ?_); refine store_event (t := 4) (p := 22) (v := ?vo_w12) (w1 := (wr.setCell ⟨go9, (x8_1 : Int).toNat, none⟩ (.bool true))) ?hg ?ho ?hn ?hr ?_; (case ho => rfl); (case hg => rfl); (case hn => rfl); (case hr => (go_simp; done)); intro w12 hw; have hg : wr.grownBy w12 (some go9) := (by rw [hw]; exact HP11.2); have hp_ : Kd.R Kd.bool 4 w12 w0.heap.size (fun k_ => (P0_ k_ ∨ w.heap.size ≤ k_)) (.slice (some ⟨go9, 0, none⟩) x0_1.length co10) y706 := (by rw [hw, Ny706.out]; exact HP11.1); clear HP11; replace HB := M0 ((by rw [hw]; exact below_set (HB.out) GB9.out : Below w0.heap.size w0 w12)); replace HK := M0 (Kept.of_grown (S := (fun k_ => P0_ k_)) hg HK.out (fun k_ e_ => (HO_0.out.1 k_ e_))); replace HO_0 := M0 hp_; clear hg hw hp_))
        go_roundg k1
        case measure => have := HK1.out; omega
        case rel => exact ⟨(y706), (wrap64 (x8_1 + 1)), (by rfl), H', ⟨by have := HK1.out; omega⟩, ⟨by exact HO_0.out⟩, ⟨by with_reducible exact HK.out⟩, ⟨by with_reducible exact HB.out⟩⟩
       ·replace c8 := Bool.eq_false_iff.mpr c8
        subst c8
        rw [if_neg (show ¬ (false = true) by decide)] at H
        obtain ⟨y707, hy707⟩ : ∃ y_ : List Bool, y_ = (x0_1.set (x8_1 : Int).toNat (rdOf false l1 x8_1)) := ⟨_, rfl⟩
        replace H : (expr_join.l0 k1 y707 l1 (l1.length : Int) (wrap64 (x8_1 + 1))) = some r := by (rw [hy707]; with_reducible exact H)
        have Ny707 := M0 hy707
        clear hy707
        have H' := M0 H
        clear H
        have p704 : 0 ≤ (x8_1 : Int) := of_decide_eq_true (by (with_reducible assumption))
        have q704 : x8_1 < (l1.length : Int) := of_decide_eq_true (by (with_reducible assumption))
        obtain ⟨ad704, e704, hx704_0⟩ := Kd.at_bool (Kd.C_kept_now HR1.out HK.out) x8_1 p704 q704
        (skip)
        cases e704
        replace p704 := eq_true p704
        replace q704 := eq_true q704
        obtain ⟨Ao14, co14, eo14⟩ := Kd.R_slice HO_0.out
        subst eo14
        have p705 : 0 ≤ (x8_1 : Int) := of_decide_eq_true (by (with_reducible assumption))
        have q705 : x8_1 < (x0_1.length : Int) := of_decide_eq_true (by (with_reducible assumption))
        obtain ⟨ad705, e705, hx705_0⟩ := Kd.at_bool (Kd.R_reads' HO_0.out).2.2 x8_1 p705 q705
        (rw [← Nbq7.out] at hx705_0)
        cases e705
        clear p705
        replace q705 := eq_true q705
        have p13 : 0 ≤ (x8_1 : Int) := of_decide_eq_true (by (with_reducible assumption))
        have q13 : (x8_1 : Int) < ((x0_1.length : Int) : Int) := of_decide_eq_true (by (with_reducible assumption))
        obtain ⟨go13, co13, eo13, gb13, gl13, cl13, HG13⟩ := Kd.R_form HO_0.out (by omega)
        (cases eo13)
        have GB13 := M0 gb13
        clear gb13 gl13 HG13
        (simp only [add_plain] at hx705_0)
        obtain ⟨hx13_0, hf13_0⟩ := Kd.R_celln false HO_0.out (x8_1 : Int) p13 q13
        clear p13
        clear q13
        have HP15 := Kd.R_putg HO_0.out (x8_1 : Int) (rdOf false l1 x8_1)
        go_wp2_with (((with_reducible refine gate_store (t := 4) (p := 22) rfl ?_); refine store_event (t := 4) (p := 22) (v := ?vo_w16) (w1 := (wr.setCell ⟨go13, (x8_1 : Int).toNat, none⟩ (.bool (rdOf false l1 x8_1)))) ?hg ?ho ?hn ?hr ?_; (case ho => rfl); (case hg => rfl); (case hn => rfl); (case hr => (go_simp; done)); intro w16 hw; have hg : wr.grownBy w16 (some go13) := (by rw [hw]; exact HP15.2); have hp_ : Kd.R Kd.bool 4 w16 w0.heap.size (fun k_ => (P0_ k_ ∨ w.heap.size ≤ k_)) (.slice (some ⟨go13, 0, none⟩) x0_1.length co14) y707 := (by rw [hw, Ny707.out]; exact HP15.1); clear HP15; replace HB := M0 ((by rw [hw]; exact below_set (HB.out) GB13.out : Below w0.heap.size w0 w16)); replace HK := M0 (Kept.of_grown (S := (fun k_ => P0_ k_)) hg HK.out (fun k_ e_ => (HO_0.out.1 k_ e_))); replace HO_0 := M0 hp_; clear hg hw hp_))
        go_roundg k1
        case measure => have := HK1.out; omega
        case rel => exact ⟨(y707), (wrap64 (x8_1 + 1)), (by rfl), H', ⟨by have := HK1.out; omega⟩, ⟨by exact HO_0.out⟩, ⟨by with_reducible exact HK.out⟩, ⟨by with_reducible exact HB.out⟩⟩
      ·rw [if_neg c6] at H
       exact absurd H (by simp)
     ·rw [if_neg c5] at H
      exact absurd H (by simp)
    ·rw [if_neg c4] at H
     exact absurd H (by simp)
   ·rw [if_neg c3] at H
    have c3b0 := decide_eq_false c3
    clear c3
    obtain rfl := Option.some.inj H
    go_wp2
    go_end0
    exact ⟨by rfl, by exact HO_0.out, by with_reducible exact HB.out, by with_reducible exact HK.out⟩

end Go.Proofs.Ytodbnnfiadcbaaa.P
namespace Go.Proofs.Ytodbnnfiadcbaaa.P
open Go.RowKit Go.Proofs.YtodbnnfiadcbaaaW.PrintWords Go.Proofs.YtodbnnfiadcbaaaW.PrintLast Go.Proofs.YtodbnnfiadcbaaaW.PrintMore
set_option linter.unusedVariables false
set_option linter.unusedSimpArgs false
/-! #### the plain function -/
def isB (w : List Int) (i : Nat) (s : Int) : Bool := decide (i < w.length) && (rd w (i : Int) == s)
def nestL (w : List Int) (fin : Int) : List Bool → Nat → List Bool → List Bool
 | [], _, out => out
 | b :: m, k, out => nestL w fin m (k + 1) (if (b && isB w k fin) = true then out.set (k + 1) true else out)
def orL (f : S28 → Option (List Bool)) : List S28 → List Bool → Option (List Bool)
 | [], out => some out
 | c :: cs, out => (f c).bind fun m => (expr_join.f (m.length + 2) out m).bind fun o => orL f cs o
def catRow (f : Nat → Option (List Bool)) : List Bool → Nat → List Bool → Option (List Bool)
 | [], _, next => some next
 | b :: o, k, next => if b = true then (f k).bind fun m => (expr_join.f (m.length + 2) next m).bind fun n => catRow f o (k + 1) n else catRow f o (k + 1) next
def catL (f : S28 → Nat → Option (List Bool)) : List S28 → List Bool → Option (List Bool)
 | [], out => some out
 | c :: cs, out => (catRow (f c) out 0 (List.replicate out.length false)).bind fun o => catL f cs o
def starL (f : Nat → Option (List Bool)) : Nat → Nat → List Bool → Option (List Bool)
 | 0, _, _ => none
 | n + 1, k, out => if k < out.length then (if rdOf false out (k : Int) = true then (f k).bind fun m => (expr_join.f (m.length + 2) out m).bind fun o => starL f n (k + 1) o else starL f n (k + 1) out) else some out
def endF : Nat → S28 → Nat → List Int → Option (List Bool)
 | 0, _, _, _ => none
 | k + 1, t, at_, w => if at_ ≤ w.length ∧ w.length < 140737488355327 then
   (if t.f0 = 2 then some ((List.replicate (w.length + 1) false).set at_ true)
   else if t.f0 = 3 then (if isB w at_ t.f1 = true then some ((List.replicate (w.length + 1) false).set (at_ + 1) true) else some (List.replicate (w.length + 1) false))
   else if t.f0 = 4 then (if t.f3.length = 1 ∧ isB w at_ t.f1 = true then (endF k (t.f3.getD 0 z28) (at_ + 1) w).bind fun m => some (nestL w t.f2 m 0 (List.replicate (w.length + 1) false)) else some (List.replicate (w.length + 1) false))
   else if t.f0 = 6 then orL (fun c => endF k c at_ w) t.f3 (List.replicate (w.length + 1) false)
   else if t.f0 = 5 then catL (fun c j => endF k c j w) t.f3 ((List.replicate (w.length + 1) false).set at_ true)
   else if t.f0 = 7 then (if t.f3.length = 1 then starL (fun j => endF k (t.f3.getD 0 z28) j w) (w.length + 3) at_ ((List.replicate (w.length + 1) false).set at_ true) else some ((List.replicate (w.length + 1) false).set at_ true))
   else some (List.replicate (w.length + 1) false))
  else none
theorem orL_le {f g : S28 → Option (List Bool)} (h : ∀ c, LeO (f c) (g c)) : ∀ cs out, LeO (orL f cs out) (orL g cs out)
 | [], out => LeO.refl _
 | c :: cs, out => LeO.bind (h c) fun m => LeO.bind (LeO.refl _) fun o => orL_le h cs o
theorem catRow_le {f g : Nat → Option (List Bool)} (h : ∀ c, LeO (f c) (g c)) : ∀ o k n, LeO (catRow f o k n) (catRow g o k n)
 | [], k, n => LeO.refl _
 | b :: o, k, n => by
  unfold catRow
  exact LeO.ite (LeO.bind (h k) fun m => LeO.bind (LeO.refl _) fun n => catRow_le h o (k + 1) n) (catRow_le h o (k + 1) n)
theorem catL_le {f g : S28 → Nat → Option (List Bool)} (h : ∀ c j, LeO (f c j) (g c j)) : ∀ cs out, LeO (catL f cs out) (catL g cs out)
 | [], out => LeO.refl _
 | c :: cs, out => LeO.bind (catRow_le (h c) _ _ _) fun o => catL_le h cs o
theorem starL_le {f g : Nat → Option (List Bool)} (h : ∀ c, LeO (f c) (g c)) : ∀ n k out, LeO (starL f n k out) (starL g n k out)
 | 0, k, out => LeO.refl _
 | n + 1, k, out => by
  unfold starL
  exact LeO.ite (LeO.ite (LeO.bind (h k) fun m => LeO.bind (LeO.refl _) fun n' => starL_le h n (k + 1) n') (starL_le h n (k + 1) out)) (LeO.refl _)
theorem endF_le : ∀ k t a w, LeO (endF k t a w) (endF (k + 1) t a w)
 | 0, t, a, w => by unfold endF; exact LeO.none _
 | k + 1, t, a, w => by
  unfold endF
  exact LeO.ite (LeO.ite (LeO.refl _) (LeO.ite (LeO.refl _) (LeO.ite (LeO.ite (LeO.bind (endF_le k _ _ _) fun _ => LeO.refl _) (LeO.refl _)) (LeO.ite (orL_le (fun c => endF_le k c a w) _ _) (LeO.ite (catL_le (fun c j => endF_le k c j w) _ _) (LeO.ite (LeO.ite (starL_le (fun j => endF_le k _ j w) _ _ _) (LeO.refl _)) (LeO.refl _))))))) (LeO.none _)
theorem endF_up {k : Nat} {t : S28} {a : Nat} {w : List Int} {r : List Bool} (h : endF k t a w = some r) : ∀ j, endF (k + j) t a w = some r
 | 0 => h
 | j + 1 => endF_le (k + j) t a w r (endF_up h j)
theorem endF_one {k k' : Nat} {t : S28} {a : Nat} {w : List Int} {r r' : List Bool} (h : endF k t a w = some r) (h' : endF k' t a w = some r') : r = r' := by
 have h1 := endF_up h k'
 have h2 := endF_up h' k
 rw [Nat.add_comm] at h2
 exact Option.some.inj (h1.symm.trans h2)
def hasF (k : Nat) (t : S28) (w : List Int) : Option Bool := (endF k t 0 w).bind fun m => if w.length < m.length then some (rdOf false m (w.length : Int)) else none
theorem hasF_le (k : Nat) (t : S28) (w : List Int) : LeO (hasF k t w) (hasF (k + 1) t w) := LeO.bind (endF_le k t 0 w) fun _ => LeO.refl _
theorem isB_lt {w : List Int} {j n : Nat} {s : Int} (h : isB w j s = true) (hn : n = w.length + 1) : j + 1 < n := by
 unfold isB at h
 simp only [Bool.and_eq_true, decide_eq_true_eq] at h
 omega
/-! #### nodes in memory -/
def Node (W : World) (ok : Nat → Prop) (p : Addr) (t : S28) : Prop := ok p.block ∧ p.spot = none ∧ PlainAt W p ∧ ∃ cs, cs.length = 4 ∧ (∀ i u, cs[i]? = some u → W.cell? (p.add i) = some u) ∧ Kd.FK k28 W ok t cs
theorem cell_keep {W W1 : World} {a : Addr} {v : Value} (h : W1.heap[a.block]? = W.heap[a.block]?) (hc : W.cell? a = some v) : W1.cell? a = some v := by
 simpa [World.cell?, h] using hc
theorem add_at (b o i : Nat) : (⟨b, o, none⟩ : Addr).add i = ⟨b, o + i, none⟩ := by
 unfold Addr.add; split <;> simp_all
theorem add_block (a : Addr) (i : Nat) : (a.add i).block = a.block := by
 unfold Addr.add; split <;> rfl
theorem Node.mono {W : World} {ok ok' : Nat → Prop} {p : Addr} {t : S28} (h : Node W ok p t) (hok : ∀ k, ok k → ok' k) : Node W ok' p t := by
 obtain ⟨h1, h2, h3, cs, h4, h5, h6⟩ := h
 exact ⟨hok _ h1, h2, h3, cs, h4, h5, Kd.FK_mono h6 hok⟩
theorem Node.lt {W : World} {ok : Nat → Prop} {p : Addr} {t : S28} (h : Node W ok p t) : p.block < W.heap.size := by
 obtain ⟨h1, h2, ⟨_, _, h3⟩, _⟩ := h
 exact (Array.getElem?_eq_some_iff.1 h3).1
theorem Node.bound {W : World} {ok : Nat → Prop} {p : Addr} {t : S28} (h : Node W ok p t) : Node W (fun k => ok k ∧ k < W.heap.size) p t := by
 have hl := h.lt
 obtain ⟨h1, h2, h3, cs, h4, h5, h6⟩ := h
 exact ⟨⟨h1, hl⟩, h2, h3, cs, h4, h5, Kd.FK_bound h6⟩
theorem Node.step {W W1 : World} {ok : Nat → Prop} {p : Addr} {t : S28} (h : Node W ok p t) (hm : ∀ k, ok k → k < W.heap.size → W1.heap[k]? = W.heap[k]?) : Node W1 ok p t := by
 have hl := h.lt
 obtain ⟨h1, h2, ⟨c, tt, h3⟩, cs, h4, h5, h6⟩ := h
 exact ⟨h1, h2, ⟨c, tt, (hm _ h1 hl).trans h3⟩, cs, h4, fun i u hu => cell_keep (by rw [add_block]; exact hm _ h1 hl) (h5 i u hu), Kd.FK_step h6 hm⟩
theorem Node.open {W : World} {ok : Nat → Prop} {p : Addr} {t : S28} (h : Node W ok p t) : ∃ b o A c, p = ⟨b, o, none⟩ ∧ W.cell? ⟨b, o, none⟩ = some (.int .i64 t.f0) ∧ W.cell? ⟨b, o + 1, none⟩ = some (.int .i64 t.f1) ∧ W.cell? ⟨b, o + 2, none⟩ = some (.int .i64 t.f2) ∧ W.cell? ⟨b, o + 3, none⟩ = some (.slice A t.f3.length c) ∧ t.f3.length ≤ c ∧ Kd.F k28 W ok A t.f3.length t.f3 := by
 obtain ⟨h1, h2, h3, cs, h4, h5, h6⟩ := h
 obtain ⟨A, c, rfl, hl, hF⟩ := k28_openF h6
 obtain ⟨b, o, s⟩ := p
 simp only at h2
 subst h2
 refine ⟨b, o, A, c, rfl, ?_, ?_, ?_, ?_, hl, hF⟩
 ·simpa [Addr.add] using h5 0 _ rfl
 ·simpa [Addr.add] using h5 1 _ rfl
 ·simpa [Addr.add] using h5 2 _ rfl
 ·simpa [Addr.add] using h5 3 _ rfl
theorem F_ok {α : Type} {d : Kd α} {W : World} {ok : Nat → Prop} {ad : Addr} {n : Nat} {xs : List α} (h : Kd.F d W ok (some ad) n xs) (hn : 0 < n) (hs : 0 < d.sz) : ok ad.block := by
 apply Classical.byContradiction
 intro hno
 obtain ⟨W', h1, h2⟩ := Kd.emptied W ad.block
 exact Kd.C_not_empty (h W' (fun k hk _ => h1 k (fun e => hno (e ▸ hk)))) hn hs (h2 ad rfl)
theorem F_row {W : World} {ok : Nat → Prop} {A : Option Addr} {l : List S28} (h : Kd.F k28 W ok A l.length l) (i : Nat) (hi : i < l.length) : ∃ b o, A = some ⟨b, o, none⟩ ∧ Node W ok ⟨b, o + i * 4, none⟩ (l.getD i z28) := by
 obtain ⟨ad, c, e, hcl, hK, hc⟩ := Kd.C_get (Kd.F_now h) z28 (i : Int) (by omega) (by omega)
 subst e
 simp only [Int.toNat_natCast] at hK hc
 have hs4 : k28.sz = 4 := rfl
 have hokb := F_ok h (by omega) (by rw [hs4]; decide)
 obtain ⟨cells, tt, hb⟩ := (Kd.F_now h).2 trivial (by omega) ad rfl
 obtain ⟨b, o, s⟩ := ad
 have hsn : s = none := by
  cases s with
  | none => rfl
  | some q => exact absurd (by simp [World.cell?, show W.heap[b]? = _ from hb]) (Kd.C_not_empty (Kd.F_now h) (by omega) (by rw [hs4]; decide))
 subst hsn
 refine ⟨b, o, rfl, hokb, rfl, ⟨cells, tt, hb⟩, c, by rw [hcl]; rfl, fun j u hu => ?_, fun W' hW => ?_⟩
 ·have := hc j u hu
  rw [hs4, add_at] at this
  rw [add_at, Nat.add_assoc]
  exact this
 ·have hC := h W' hW
  obtain ⟨ad', c', e', hcl', hK', hc'⟩ := Kd.C_get hC z28 (i : Int) (by omega) (by omega)
  injection e' with e'
  subst e'
  simp only [Int.toNat_natCast] at hK' hc'
  have hblk : W'.heap[b]? = W.heap[b]? := hW b hokb (Array.getElem?_eq_some_iff.1 hb).1
  have hcc : c' = c := by
   apply List.ext_getElem?
   intro j
   by_cases hj : j < 4
   ·have hj1 : j < c.length := by rw [hcl]; exact hj
    have hj2 : j < c'.length := by rw [hcl']; exact hj
    have e1 := hc j _ (List.getElem?_eq_getElem hj1)
    have e2 := hc' j _ (List.getElem?_eq_getElem hj2)
    have e3 := cell_keep (W1 := W') (by rw [add_block]; exact hblk) e1
    rw [List.getElem?_eq_getElem hj1, List.getElem?_eq_getElem hj2]
    exact e2.symm.trans e3
   ·rw [List.getElem?_eq_none (l := c) (by rw [hcl, hs4]; omega), List.getElem?_eq_none (l := c') (by rw [hcl', hs4]; omega)]
  rw [← hcc]
  exact hK'
theorem Node.unique {W : World} {ok ok' : Nat → Prop} : ∀ (n : Nat) (t t' : S28) (p : Addr), SizeOf.sizeOf t < n → Node W ok p t → Node W ok' p t' → t = t'
 | 0, _, _, _, h, _, _ => absurd h (Nat.not_lt_zero _)
 | n + 1, t, t', p, hn, h, h' => by
  obtain ⟨b, o, A, c, rfl, h0, h1, h2, h3, h4, h5⟩ := h.open
  obtain ⟨b', o', A', c', e, h0', h1', h2', h3', h4', h5'⟩ := h'.open
  injection e with e1 e2 _
  subst e1
  subst e2
  rw [h0] at h0'; rw [h1] at h1'; rw [h2] at h2'; rw [h3] at h3'
  injection h0' with h0'; injection h0' with _ h0'
  injection h1' with h1'; injection h1' with _ h1'
  injection h2' with h2'; injection h2' with _ h2'
  injection h3' with h3'; injection h3' with e1 e2 e3
  subst e1
  have hL : t.f3 = t'.f3 := by
   apply List.ext_getElem e2
   intro i hi hi'
   obtain ⟨b1, o1, e, hN⟩ := F_row h5 i hi
   obtain ⟨b2, o2, e', hN'⟩ := F_row h5' i hi'
   rw [e] at e'
   injection e' with e'
   injection e' with e1 e2 _
   subst e1
   subst e2
   have hsz : SizeOf.sizeOf (t.f3.getD i z28) < n := by
    have hm : t.f3.getD i z28 ∈ t.f3 := by rw [List.getD_eq_getElem?_getD, List.getElem?_eq_getElem hi]; exact List.getElem_mem hi
    have := List.sizeOf_lt_of_mem hm
    have h9 : SizeOf.sizeOf t.f3 < SizeOf.sizeOf t := by cases t; simp only [S28.mk.sizeOf_spec]; omega
    omega
   have := Node.unique n _ _ _ hsz hN hN'
   rw [List.getD_eq_getElem?_getD, List.getElem?_eq_getElem hi, List.getD_eq_getElem?_getD, List.getElem?_eq_getElem hi'] at this
   exact this
  cases t
  cases t'
  simp only at h0' h1' h2' hL
  subst h0' h1' h2' hL
  rfl
theorem F_child {W : World} {ok : Nat → Prop} {A : Option Addr} {l : List S28} (h : Kd.F k28 W ok A l.length l) (i : Nat) (hi : i < l.length) : ∃ b o, A = some ⟨b, o, none⟩ ∧ Node W ok (Addr.add ⟨b, o, none⟩ (i * 4)) (l.getD i z28) := by
 obtain ⟨b, o, e, hN⟩ := F_row h i hi
 exact ⟨b, o, e, by rw [add_at]; exact hN⟩
theorem getD_drop {α : Type} (l : List α) (z : α) (j : Nat) (hj : j < l.length) : l.drop j = l.getD j z :: l.drop (j + 1) := by
 rw [List.getD_eq_getElem?_getD, List.getElem?_eq_getElem hj]
 exact List.drop_eq_getElem_cons hj
theorem rdOf_drop (l : List Bool) (j : Nat) (hj : j < l.length) : l.drop j = rdOf false l (j : Int) :: l.drop (j + 1) := by
 rw [getD_drop l false j hj]; rfl
theorem nestL_step {w : List Int} {fin : Int} {m o : List Bool} {j : Nat} (hj : j < m.length) : nestL w fin (m.drop j) j o = nestL w fin (m.drop (j + 1)) (j + 1) (if (rdOf false m (j : Int) && isB w j fin) = true then o.set (j + 1) true else o) := by
 rw [rdOf_drop m j hj]; rfl
theorem bind_some {α β : Type} {x : Option α} {f : α → Option β} {r : β} (h : x.bind f = some r) : ∃ y, x = some y ∧ f y = some r := Option.bind_eq_some_iff.mp h
theorem orL_step {f : S28 → Option (List Bool)} {l : List S28} {o r : List Bool} {j : Nat} (hj : j < l.length) (h : orL f (l.drop j) o = some r) : ∃ m o', f (l.getD j z28) = some m ∧ expr_join.f (m.length + 2) o m = some o' ∧ orL f (l.drop (j + 1)) o' = some r := by
 rw [getD_drop l z28 j hj] at h
 obtain ⟨m, h1, h⟩ := bind_some h
 obtain ⟨o', h2, h⟩ := bind_some h
 exact ⟨m, o', h1, h2, h⟩
theorem catL_step {f : S28 → Nat → Option (List Bool)} {l : List S28} {o r : List Bool} {j : Nat} (hj : j < l.length) (h : catL f (l.drop j) o = some r) : ∃ o', catRow (f (l.getD j z28)) o 0 (List.replicate o.length false) = some o' ∧ catL f (l.drop (j + 1)) o' = some r := by
 rw [getD_drop l z28 j hj] at h
 exact bind_some h
theorem catRow_step {f : Nat → Option (List Bool)} {l o r : List Bool} {j : Nat} (hj : j < l.length) (h : catRow f (l.drop j) j o = some r) :
  (rdOf false l (j : Int) = true ∧ ∃ m o', f j = some m ∧ expr_join.f (m.length + 2) o m = some o' ∧ catRow f (l.drop (j + 1)) (j + 1) o' = some r) ∨ (rdOf false l (j : Int) = false ∧ catRow f (l.drop (j + 1)) (j + 1) o = some r) := by
 rw [rdOf_drop l j hj] at h
 unfold catRow at h
 cases hb : rdOf false l (j : Int) with
 | true =>
  rw [hb, if_pos rfl] at h
  obtain ⟨m, h1, h⟩ := bind_some h
  obtain ⟨o', h2, h⟩ := bind_some h
  exact .inl ⟨rfl, m, o', h1, h2, h⟩
 | false =>
  rw [hb, if_neg (by decide)] at h
  exact .inr ⟨rfl, h⟩
theorem starL_step {f : Nat → Option (List Bool)} {q : Nat} {o r : List Bool} {j : Nat} (hj : j < o.length) (h : starL f q j o = some r) : ∃ q1, q = q1 + 1 ∧
  ((rdOf false o (j : Int) = true ∧ ∃ m o', f j = some m ∧ expr_join.f (m.length + 2) o m = some o' ∧ starL f q1 (j + 1) o' = some r) ∨ (rdOf false o (j : Int) = false ∧ starL f q1 (j + 1) o = some r)) := by
 cases q with
 | zero => cases h
 | succ q =>
  refine ⟨q, rfl, ?_⟩
  unfold starL at h
  rw [if_pos hj] at h
  cases hb : rdOf false o (j : Int) with
  | true =>
   rw [hb, if_pos rfl] at h
   obtain ⟨m, h1, h⟩ := bind_some h
   obtain ⟨o', h2, h⟩ := bind_some h
   exact .inl ⟨rfl, m, o', h1, h2, h⟩
  | false =>
   rw [hb, if_neg (by decide)] at h
   exact .inr ⟨rfl, h⟩
theorem starL_end {f : Nat → Option (List Bool)} {q : Nat} {o r : List Bool} {j : Nat} (hj : ¬ j < o.length) (h : starL f q j o = some r) : o = r := by
 cases q with
 | zero => cases h
 | succ q =>
  unfold starL at h
  rw [if_neg hj] at h
  exact Option.some.inj h
/-! #### the reader -/
def Entry (W : World) (ok : Nat → Prop) (lw : List Int) (e : MapEntry) : Prop := ∃ (p : Addr) (n : Nat) (t : S28) (k : Nat) (l : List Bool) (A : Option Addr) (c : Nat), e.key = keyV p n ∧ e.val = .slice A l.length c ∧ l.length ≤ c ∧ Kd.F Kd.bool W ok A l.length l ∧ Node W ok p t ∧ endF k t n lw = some l
structure RInv (W : World) (ok : Nat → Prop) (g bm : Nat) (Aw : Option Addr) (cw : Nat) (lw : List Int) : Prop where
 blk : W.heap[g]? = some (.cells #[.slice Aw lw.length cw, .map (some bm)] 94 (0, 0))
 okg : ok g
 nok : ¬ ok bm
 cap : lw.length ≤ cw
 row : Kd.F (Kd.int .i64) W ok Aw lw.length lw
 map : ∃ es clk, W.heap[bm]? = some (.map es clk) ∧ ∀ e ∈ es.toList, Entry W ok lw e
section
variable {W W1 : World} {ok ok' : Nat → Prop} {g bm : Nat} {Aw : Option Addr} {cw : Nat} {lw : List Int}
theorem Entry.mono {e : MapEntry} (h : Entry W ok lw e) (hok : ∀ k, ok k → ok' k) : Entry W ok' lw e := by
 obtain ⟨p, n, t, k, l, A, c, h1, h2, h3, h4, h5, h6⟩ := h
 exact ⟨p, n, t, k, l, A, c, h1, h2, h3, Kd.F_mono h4 hok, h5.mono hok, h6⟩
theorem Entry.bound {e : MapEntry} (h : Entry W ok lw e) : Entry W (fun k => ok k ∧ k < W.heap.size) lw e := by
 obtain ⟨p, n, t, k, l, A, c, h1, h2, h3, h4, h5, h6⟩ := h
 exact ⟨p, n, t, k, l, A, c, h1, h2, h3, Kd.F_bound h4, h5.bound, h6⟩
theorem Entry.step {e : MapEntry} (h : Entry W ok lw e) (hm : ∀ k, ok k → k < W.heap.size → W1.heap[k]? = W.heap[k]?) : Entry W1 ok lw e := by
 obtain ⟨p, n, t, k, l, A, c, h1, h2, h3, h4, h5, h6⟩ := h
 exact ⟨p, n, t, k, l, A, c, h1, h2, h3, Kd.F_step h4 hm, h5.step hm, h6⟩
theorem RInv.glt (h : RInv W ok g bm Aw cw lw) : g < W.heap.size := (Array.getElem?_eq_some_iff.1 h.blk).1
theorem RInv.blt (h : RInv W ok g bm Aw cw lw) : bm < W.heap.size := by
 obtain ⟨_, _, hb, _⟩ := h.map
 exact (Array.getElem?_eq_some_iff.1 hb).1
theorem RInv.mono (h : RInv W ok g bm Aw cw lw) (hok : ∀ k, ok k → ok' k) (hno : ¬ ok' bm) : RInv W ok' g bm Aw cw lw := by
 obtain ⟨es, clk, hb, he⟩ := h.map
 exact ⟨h.blk, hok _ h.okg, hno, h.cap, Kd.F_mono h.row hok, es, clk, hb, fun e hm => (he e hm).mono hok⟩
theorem RInv.bound (h : RInv W ok g bm Aw cw lw) : RInv W (fun k => ok k ∧ k < W.heap.size) g bm Aw cw lw := by
 obtain ⟨es, clk, hb, he⟩ := h.map
 exact ⟨h.blk, ⟨h.okg, h.glt⟩, fun h' => h.nok h'.1, h.cap, Kd.F_bound h.row, es, clk, hb, fun e hm => (he e hm).bound⟩
theorem RInv.step (h : RInv W ok g bm Aw cw lw) (hm : ∀ k, ok k → k < W.heap.size → W1.heap[k]? = W.heap[k]?) (hbm : W1.heap[bm]? = W.heap[bm]?) : RInv W1 ok g bm Aw cw lw := by
 obtain ⟨es, clk, hb, he⟩ := h.map
 exact ⟨(hm _ h.okg h.glt).trans h.blk, h.okg, h.nok, h.cap, Kd.F_step h.row hm, es, clk, hbm.trans hb, fun e hm' => (he e hm').step hm⟩
theorem KeysOk.of {es : List MapEntry} (h : ∀ e ∈ es, Entry W ok lw e) : KeysOk W es := fun e he => by
 obtain ⟨p, n, t, k, l, A, c, h1, h2, h3, h4, h5, h6⟩ := h e he
 exact ⟨p, n, h1, h5.2.2.1⟩
end
/-! #### the state of a call: the row it writes (its own), the reader -/
def Same (w W : World) : Prop := W.os = w.os ∧ W.tape = w.tape ∧ W.output = w.output
theorem Same.refl (w : World) : Same w w := ⟨rfl, rfl, rfl⟩
theorem Same.trans {a b c : World} (h : Same a b) (k : Same b c) : Same a c := ⟨k.1.trans h.1, k.2.1.trans h.2.1, k.2.2.trans h.2.2⟩
theorem Same.of_below {n : Nat} {a b : World} (h : Below n a b) : Same a b := ⟨h.os, h.tape, h.output⟩
abbrev sv (b n c : Nat) : Value := .slice (some ⟨b, 0, none⟩) n c
structure Inv (w W : World) (ok : Nat → Prop) (g bm : Nat) (Aw : Option Addr) (cw : Nat) (lw : List Int) (n b c : Nat) (l : List Bool) : Prop where
 nn : n = lw.length + 1
 same : Same w W
 kept : Kept w W (fun k => k = bm)
 base : w.heap.size ≤ b
 lt : b < W.heap.size
 own : Kd.R Kd.bool 4 W w.heap.size (fun k => k = b) (sv b n c) l
 inv : RInv W (fun k => ok k ∧ k ≠ b) g bm Aw cw lw
theorem bool_one {W : World} {e base b n c : Nat} {ok : Nat → Prop} {l : List Bool} (h : Kd.R Kd.bool e W base ok (sv b n c) l) : Kd.R Kd.bool e W base (fun k => k = b) (sv b n c) l :=
 ⟨fun k hk => by simp only [Value.ownBlock, Option.map_some, Option.some.injEq] at hk; exact hk.symm, h.2⟩
theorem row_made {W W1 : World} {base m n : Nat} (hn : n = m + 1) {ok : Nat → Prop} {v : Value} (hv : Kd.R Kd.bool 4 W1 base ok v (List.replicate n false)) (hat : ∃ b, v.ownBlock = some b ∧ W.heap.size ≤ b) :
  ∃ b c, v = sv b n c ∧ W.heap.size ≤ b ∧ b < W1.heap.size ∧ Kd.R Kd.bool 4 W1 base (fun k => k = b) (sv b n c) (List.replicate n false) := by
 obtain ⟨b, c, e, h1, h2, h3⟩ := Kd.R_form hv (by rw [List.length_replicate]; omega)
 rw [List.length_replicate] at e
 subst e
 obtain ⟨b', e, h4⟩ := hat
 simp only [Value.ownBlock, Option.map_some, Option.some.injEq] at e
 subst e
 exact ⟨b, c, rfl, h4, h2, bool_one hv⟩
section
variable {w W W1 : World} {ok okn : Nat → Prop} {g bm : Nat} {Aw : Option Addr} {cw : Nat} {lw : List Int} {n b c : Nat} {l : List Bool}
theorem Inv.made (hn : n = lw.length + 1) (hs : Same w W) (hk : Kept w W (fun k => k = bm)) (hR : RInv W ok g bm Aw cw lw) (hg : W.grownBy W1 none) (hb : W.heap.size ≤ b) (hlt : b < W1.heap.size)
  (ho : Kd.R Kd.bool 4 W1 w.heap.size (fun k => k = b) (sv b n c) l) : Inv w W1 ok g bm Aw cw lw n b c l where
 nn := hn
 same := hs.trans ⟨hg.os, hg.tape, hg.output⟩
 kept := Kept.of_grown hg hk (fun k e => by cases e)
 base := Nat.le_trans hk.1 hb
 lt := hlt
 own := ho
 inv := by
  refine (hR.bound.step (W1 := W1) (fun k hk hlt => hg.block k hlt (by simp)) (hg.block bm hR.blt (by simp))).mono (fun k hk => ⟨hk.1, by have := hk.2; omega⟩) (fun h => hR.nok h.1)
theorem Inv.set (h : Inv w W ok g bm Aw cw lw n b c l) (hbm : bm < w.heap.size) (i : Nat) (x : Bool) : Inv w (W.setCell ⟨b, i, none⟩ (.bool x)) ok g bm Aw cw lw n b c (l.set i x) := by
 have hp := Kd.R_putg h.own (i : Int) x
 simp only [Int.toNat_natCast] at hp
 have hb := h.base
 refine ⟨h.nn, h.same.trans ⟨hp.2.os, hp.2.tape, hp.2.output⟩, Kept.of_grown hp.2 h.kept (fun k e => .inr (by injection e with e; omega)), h.base, by simpa [World.setCell] using h.lt, hp.1, ?_⟩
 exact h.inv.step (fun k hk _ => Below.heap_setCell W ⟨b, i, none⟩ _ k hk.2) (Below.heap_setCell W ⟨b, i, none⟩ _ bm (by show bm ≠ b; omega))
theorem Inv.weak (h : Inv w W okn g bm Aw cw lw n b c l) (hok : ∀ k, okn k → ok k) (hno : ¬ ok bm) : Inv w W ok g bm Aw cw lw n b c l :=
 ⟨h.nn, h.same, h.kept, h.base, h.lt, h.own, h.inv.mono (fun k hk => ⟨hok k hk.1, hk.2⟩) (fun h' => hno h'.1)⟩
theorem Inv.cell (h : Inv w W ok g bm Aw cw lw n b c l) {q o : Nat} {v : Value} (hlt : q < w.heap.size) (hne : q ≠ bm) (hc : w.cell? ⟨q, o, none⟩ = some v) : W.cell? ⟨q, o, none⟩ = some v :=
 cell_keep (h.kept.2 q hlt hne) hc
theorem Inv.cellb (h : Inv w W ok g bm Aw cw lw n b c l) (i : Nat) (hi : i < n) : W.cell? ⟨b, i, none⟩ = some (.bool (rdOf false l (i : Int))) ∧ W.frozen? ⟨b, i, none⟩ = false := by
 have := Kd.R_celln false h.own (i : Int) (by omega) (by omega)
 simpa only [Int.toNat_natCast] using this
theorem Inv.len (h : Inv w W ok g bm Aw cw lw n b c l) : l.length = n := (Kd.R_reads' h.own).1.symm
theorem Inv.node (h : Inv w W ok g bm Aw cw lw n b c l) {p : Addr} {t : S28} (hN : Node w okn p t) (hn : ∀ k, okn k → k ≠ bm) (hok : ∀ k, okn k → k < w.heap.size → ok k) : Node W (fun k => ok k ∧ k ≠ b) p t := by
 have hb := h.base
 exact (hN.bound.step (W1 := W) (fun k hk hlt => h.kept.2 k hlt (hn k hk.1))).mono (fun k hk => ⟨hok k hk.1 hk.2, by have := hk.2; omega⟩)
theorem below_trunc (W : World) (n : Nat) (hn : n ≤ W.heap.size) : Below n { W with heap := W.heap.extract 0 n } W :=
 ⟨rfl, rfl, rfl, by simp; omega, fun k hk => by simp only [Array.getElem?_extract]; rw [if_pos (by omega)]; simp⟩
theorem Inv.join (h : Inv w W ok g bm Aw cw lw n b c l) (hbm : bm < w.heap.size) {A : Option Addr} {cm : Nat} {m o : List Bool} {f : Nat} (hm : Kd.F Kd.bool W (fun k => ok k ∧ k ≠ b) A m.length m) (hc : m.length ≤ cm) (hj : expr_join.f f l m = some o) :
  Calls Try.prog 70 #[sv b n c, .slice A m.length cm] W fun e W' => e = .returned (.tuple #[]) ∧ Inv w W' ok g bm Aw cw lw n b c o ∧ Kept W W' (fun k => k = b) := by
 have hsz : ({ W with heap := W.heap.extract 0 w.heap.size } : World).heap.size = w.heap.size := by simp; exact Nat.min_eq_left h.kept.1
 have hb := h.base
 refine (expr_join.calls f (fun k => k = b) (sv b n c) l A cm m o { W with heap := W.heap.extract 0 w.heap.size } W (by rw [hsz]; exact below_trunc W _ h.kept.1) (by rw [hsz]; exact h.own) (fun W' hk => Kd.F_now (Kd.F_kept hm hk (fun k hk => hk.2))) hc hj).mono ?_
 rintro e W' ⟨he, h1, h2, h3⟩
 rw [hsz] at h1
 refine ⟨he, ⟨h.nn, h.same.trans (show Same W W' from ⟨h2.os, h2.tape, h2.output⟩), h.kept.then_ h3 (fun k hk => .inr (by omega)), h.base, Nat.lt_of_lt_of_le h.lt h3.1, bool_one h1, ?_⟩, h3⟩
 exact h.inv.step (fun k hk hlt => h3.2 k hlt hk.2) (h3.2 bm h.inv.blt (by omega))
end
section
variable {P : Program} {ops : Array Oper} {Q : Exit → Act → World → Prop} {o : Oper} {rest : List Oper} {a : Act} {W w1 : World}
end
/-- What is kept under a pointer and a place. -/
theorem Inv.stored {w W W' : World} {ok : Nat → Prop} {g bm : Nat} {Aw : Option Addr} {cw : Nat} {lw : List Int} {n b c : Nat} {l : List Bool} (h : Inv w W ok g bm Aw cw lw n b c l) (hbm : bm < w.heap.size) (hokb : ok b) (hno : ¬ ok bm) {p : Addr} {t : S28} {at_ k : Nat} (hN : Node W ok p t) (hf : endF k t at_ lw = some l)
  (hl : l.length ≤ c) {es es' : Array MapEntry} {clk clk' : Nat} (hb0 : W.heap[bm]? = some (.map es clk)) (hE : ∀ e ∈ es.toList, Entry W (fun k => ok k ∧ k ≠ b) lw e) (hW : W' = { W with heap := W.heap.setIfInBounds bm (.map es' clk') }) (hes : ∀ e ∈ es'.toList, e ∈ es.toList ∨ e.key = keyV p at_ ∧ e.val = sv b n c) :
  Kd.F Kd.bool W' ok (some ⟨b, 0, none⟩) l.length l ∧ RInv W' ok g bm Aw cw lw ∧ Kept w W' (fun j => j = bm) ∧ Same w W' := by
 have hb := h.base
 have hk : ∀ k, k ≠ bm → W'.heap[k]? = W.heap[k]? := fun k hk => by rw [hW]; simp [Ne.symm hk]
 have hbl : W'.heap[bm]? = some (.map es' clk') := by rw [hW]; simp [h.inv.blt]
 have hle := h.len
 have hrow : Kd.F Kd.bool W ok (some ⟨b, 0, none⟩) l.length l := by
  have := Kd.R_F h.own
  rw [← hle] at this
  exact Kd.F_mono this (fun k hk => hk ▸ hokb)
 have hrow' := Kd.F_step (W1 := W') hrow (fun k hk' _ => hk k (fun e => hno (e ▸ hk')))
 refine ⟨hrow', ⟨(hk g (fun e => hno (e ▸ h.inv.okg.1))).trans h.inv.blk, h.inv.okg.1, hno, h.inv.cap, Kd.F_step (Kd.F_mono h.inv.row (fun k hk => hk.1)) (fun k hk' _ => hk k (fun e => hno (e ▸ hk'))), es', clk', hbl, fun e he => ?_⟩, ⟨by rw [hW]; simpa using h.kept.1, fun i hi hn => (hk i hn).trans (h.kept.2 i hi hn)⟩, ?_⟩
 ·rcases hes e he with he | ⟨he1, he2⟩
  ·exact ((hE e he).mono (fun k hk => hk.1)).step (fun k hk' _ => hk k (fun e => hno (e ▸ hk')))
  ·exact ⟨p, at_, t, k, l, some ⟨b, 0, none⟩, c, he1, by rw [he2, hle], hl, hrow', hN.step (fun k hk' _ => hk k (fun e => hno (e ▸ hk'))), hf⟩
 ·rw [hW]; exact h.same
def Post (W : World) (ok : Nat → Prop) (g bm : Nat) (Aw : Option Addr) (cw : Nat) (lw : List Int) (r : List Bool) (e : Ending) (W' : World) : Prop :=
 ∃ A c, e = .returned (.slice A r.length c) ∧ r.length ≤ c ∧ Kd.F Kd.bool W' ok A r.length r ∧ RInv W' ok g bm Aw cw lw ∧ Kept W W' (fun j => j = bm) ∧ Same W W'
def EndS (k : Nat) : Prop := ∀ (t : S28) (at_ : Nat) (r : List Bool) (p : Addr) (g bm : Nat) (Aw : Option Addr) (cw : Nat) (lw : List Int) (ok : Nat → Prop) (W : World),
 endF k t at_ lw = some r → RInv W ok g bm Aw cw lw → Node W ok p t → (∀ j, W.heap.size ≤ j → ok j) →
 Calls Try.prog 49 #[.pointer (some ⟨g, 0, none⟩), .pointer (some p), .int .i64 (at_ : Int)] W (Post W ok g bm Aw cw lw r)
def EndK (k : Nat) (c : S28 → Prop) : Prop := ∀ (t : S28) (at_ : Nat) (r : List Bool) (p : Addr) (g bm : Nat) (Aw : Option Addr) (cw : Nat) (lw : List Int) (ok : Nat → Prop) (W : World),
 c t → endF (k + 1) t at_ lw = some r → RInv W ok g bm Aw cw lw → Node W ok p t → (∀ j, W.heap.size ≤ j → ok j) →
 Calls Try.prog 49 #[.pointer (some ⟨g, 0, none⟩), .pointer (some p), .int .i64 (at_ : Int)] W (Post W ok g bm Aw cw lw r)
theorem found {W : World} {ok : Nat → Prop} {lw : List Int} {p : Addr} {t : S28} {at_ k : Nat} {r : List Bool} {e : MapEntry} (h : endF k t at_ lw = some r) (hN : Node W ok p t) (hE : Entry W ok lw e) (hk : e.key = keyV p at_) :
  ∃ A c, e.val = .slice A r.length c ∧ r.length ≤ c ∧ Kd.F Kd.bool W ok A r.length r := by
 obtain ⟨p', n, t', k', l, A, c, h1, h2, h3, h4, h5, h6⟩ := hE
 rw [h1] at hk
 unfold keyV at hk
 injection hk with hk
 simp only [Array.mk.injEq, List.cons.injEq, Value.pointer.injEq, Option.some.injEq, Value.int.injEq, Int.natCast_inj, true_and, and_true] at hk
 obtain ⟨rfl, rfl⟩ := hk
 obtain rfl := Node.unique _ _ _ _ (Nat.lt_succ_self _) hN h5
 obtain rfl := endF_one h h6
 exact ⟨A, c, h2, h3, h4⟩
section
variable {w W : World} {ok okn : Nat → Prop} {g bm : Nat} {Aw : Option Addr} {cw : Nat} {lw : List Int} {n b c : Nat} {l : List Bool}
/-- A call of 'end' in the middle. -/
theorem Inv.call {k : Nat} (ih : EndS k) (h : Inv w W ok g bm Aw cw lw n b c l) (hbm : bm < w.heap.size) (hfr : ∀ j, W.heap.size ≤ j → ok j) {p : Addr} {t : S28} {at_ : Nat} {m : List Bool} (hN : Node w okn p t) (hn : ∀ k, okn k → k ≠ bm) (hok : ∀ k, okn k → k < w.heap.size → ok k) (hf : endF k t at_ lw = some m) :
  Calls Try.prog 49 #[.pointer (some ⟨g, 0, none⟩), .pointer (some p), .int .i64 (at_ : Int)] W fun e W' => ∃ A cm, e = .returned (.slice A m.length cm) ∧ m.length ≤ cm ∧ Kd.F Kd.bool W' (fun k => ok k ∧ k ≠ b) A m.length m ∧ Inv w W' ok g bm Aw cw lw n b c l ∧ Kept W W' (fun k => k = bm) := by
 have hb := h.base
 refine (ih t at_ m p g bm Aw cw lw (fun k => ok k ∧ k ≠ b) W hf h.inv (h.node hN hn hok) (fun j hj => ⟨hfr j hj, by have := h.lt; omega⟩)).mono ?_
 rintro e W' ⟨A, cm, he, h1, h2, h3, h4, h5⟩
 exact ⟨A, cm, he, h1, h2, ⟨h.nn, h.same.trans h5, h.kept.then_ h4 (fun k hk => .inl hk), h.base, Nat.lt_of_lt_of_le h.lt h4.1, Kd.R_step h.own (fun k hk hlt => h4.2 k hlt (by omega)), h3⟩, h4⟩
end
end Go.Proofs.Ytodbnnfiadcbaaa.P
namespace Go.Proofs.Ytodbnnfiadcbaaa.P
open Go.RowKit Go.Proofs.YtodbnnfiadcbaaaW.PrintWords Go.Proofs.YtodbnnfiadcbaaaW.PrintLast Go.Proofs.YtodbnnfiadcbaaaW.PrintMore
attribute [local go_sem] max2_int min2_int max_two min_two max_three min_three max_four min_four
set_option linter.unusedVariables false
set_option linter.unusedSimpArgs false
set_option maxHeartbeats 8000000 in
set_option maxRecDepth 100000 in
theorem reader_is_calls {W : World} {ok : Nat → Prop} {g bm : Nat} {Aw : Option Addr} {cw : Nat} {lw : List Int} (h : RInv W ok g bm Aw cw lw) (i : Nat) (s : Int) :
  Calls Try.prog 69 #[.pointer (some ⟨g, 0, none⟩), .int .i64 (i : Int), .int .i64 s] W fun e W' => e = .returned (.bool (isB lw i s)) ∧ W = W' := by
 have hc0 : W.cell? ⟨g, 0, none⟩ = some (.slice Aw lw.length cw) := (blk_cell h.blk 0).trans rfl
 by_cases hi : i < lw.length
 ·obtain ⟨ad, e, hx⟩ := Kd.at_int (Kd.F_now h.row) (i : Int) (by omega) (by omega)
  have hS : isB lw i s = (rd lw (i : Int) == s) := by
   unfold isB
   rw [decide_eq_true hi, Bool.true_and]
  have c1 : decide ((i : Int) < (lw.length : Int)) = true := decide_eq_true (by omega)
  have p1 : (0 ≤ (i : Int)) = True := eq_true (by omega)
  have p2 : ((i : Int) < (lw.length : Int)) = True := eq_true (by omega)
  rw [hS]
  subst e
  rw [Int.toNat_natCast] at hx
  go_enter Try.func69, Try.ntmps69
  go_wp2
  go_ret
  exact ⟨rfl, rfl⟩
 ·have hS : isB lw i s = false := by
   unfold isB
   rw [decide_eq_false hi, Bool.false_and]
  have c1 : decide ((i : Int) < (lw.length : Int)) = false := decide_eq_false (by omega)
  rw [hS]
  go_enter Try.func69, Try.ntmps69
  go_wp2
  go_ret
  exact ⟨rfl, rfl⟩
set_option maxHeartbeats 8000000 in
set_option maxRecDepth 100000 in
theorem end_cat {k : Nat} (ih : EndS k) : EndK k (fun t => t.f0 = 5) := by
 intro t at_ r p g bm Aw cw lw ok w hk h hR hN hfr
 replace hk : t.f0 = 5 := hk
 have hP : PlainAt w p := hN.2.2.1
 have hbm := hR.blt
 obtain ⟨es, clk, hb, he⟩ := hR.map
 obtain ⟨v, b, hrun, hv⟩ := lookup_run w (at_ : Int) hP hb (KeysOk.of he)
 have hg0 : w.cell? ⟨g, 0, none⟩ = some (.slice Aw lw.length cw) := (blk_cell hR.blk 0).trans rfl
 have hg1 : w.cell? ⟨g, 1, none⟩ = some (.map (some bm)) := (blk_cell hR.blk 1).trans rfl
 have hlw : at_ ≤ lw.length ∧ lw.length < 140737488355327 := by
  unfold endF at h
  by_cases hh : at_ ≤ lw.length ∧ lw.length < 140737488355327
  ·exact hh
  ·rw [if_neg hh] at h; cases h
 obtain ⟨n, hn⟩ : ∃ n, n = lw.length + 1 := ⟨_, rfl⟩
 have hw1 : ((lw.length : Int) + 1).toNat = n := by omega
 have hnn := Aside0.mk hn
 clear hn
 go_enter Try.func49, Try.ntmps49
 unfold keyV at hrun
 go_upto_if 29 with (fail)
 cases b with
 | true =>
  obtain ⟨e, hm, hk, rfl⟩ := hv rfl
  obtain ⟨A, c, ev, h1, h2⟩ := found h hN (he e hm) hk
  rw [ev]
  go_wp2
  go_ret
  exact ⟨A, c, rfl, h1, h2, hR, Kept.refl _ _, Same.refl _⟩
 | false =>
  clear hv hrun
  have hpl := hN.lt
  have hgl := hR.glt
  have hgb : g ≠ bm := fun e => hR.nok (e ▸ hR.okg)
  have hpb : p.block ≠ bm := fun e => hR.nok (e ▸ hN.1)
  obtain ⟨pb, po, Ap, cp, rfl, h0, h1, h2, h3, hcp, hF⟩ := hN.open
  go_upto_region 5 with (first | ((with_reducible refine gate_dst (N := 37) rfl ?_); refine Kd.R_make Kd.bool w.heap.size 4 rfl (N := 37) rfl 95 _ _ rfl ((lw.length : Int) + 1) rfl rfl Try.underlying95 (.bool false) 1 info4 rfl (by decide) (by omega) false (ok := fun _ => True) (okp := fun _ => True) rfl (fun _ hk => hk) trivial (by omega) (by rw [hw1]; omega) (Below.refl _ _) (Nat.le_refl _) ?_; intro v1 W hv1 hb1 hg hat; rw [hw1] at hv1; obtain ⟨bo, co, rfl, hbo, hblt, hown⟩ := row_made hnn.out hv1 hat; have HI := Inv.made hnn.out (Same.refl _) (Kept.refl _ _) hR hg hbo hblt hown; clear hv1 hat hown; have c0 := HI.cell hpl hpb h0; have c1 := HI.cell hpl hpb h1; have c2 := HI.cell hpl hpb h2; have c3 := HI.cell hpl hpb h3; have d0 := HI.cell hgl hgb hg0; have d1 := HI.cell hgl hgb hg1))
  go_upto_block 0 with (fail)
  go_cut [9] from 10 (fun s9 wc => ∃ b1 c1, s9 = sv b1 n c1 ∧ Inv w wc ok g bm Aw cw lw n b1 c1 r)
  case rest =>
   clear HI
   obtain ⟨b1, c1, rfl, HI⟩ := hcut
   have c0 := HI.cell hpl hpb h0
   have d0 := HI.cell hgl hgb hg0
   have d1 := HI.cell hgl hgb hg1
   have hb1 := HI.base
   have hNr := HI.node (okn := ok) hN (fun k hk e => hR.nok (e ▸ hk)) (fun k hk _ => hk)
   obtain ⟨es1, clk1, hbr, her⟩ := HI.inv.map
   obtain ⟨es2, clk2, hup, hes2⟩ := update_run wc (at_ : Int) (sv b1 n c1) hNr.2.2.1 hbr (KeysOk.of her)
   unfold keyV at hup
   go_wp2
   obtain ⟨q1, q2, q3, q4⟩ := HI.stored hbm (hfr b1 hb1) hR.nok (hNr.mono (fun k hk => hk.1)) h (by rw [HI.len]; exact (Kd.R_reads' HI.own).2.1) hbr her rfl hes2
   go_ret
   exact ⟨some ⟨b1, 0, none⟩, c1, by rw [HI.len]; rfl, by rw [HI.len]; exact (Kd.R_reads' HI.own).2.1, q1, q2, q3, q4⟩
  case first =>
   have H := h
   unfold endF at H
   rw [if_pos hlw, ← hnn.out] at H
   have hat3 : at_ < n := by have := hnn.out; omega
   have hnm : n ≤ 9223372036854775807 := by have := hnn.out; omega
   have hnk := Aside0.mk (show n * 1 ≤ 281474976710656 by have := hnn.out; omega)
   have hat1 := tr_ge at_
   have hat2 := tr_lt hat3
   have k2 : ¬ t.f0 = 2 := by rw [hk]; decide
   rw [if_neg k2] at H
   have b2 : (t.f0 == 2) = false := beq_eq_false_iff_ne.mpr k2
   have k3 : ¬ t.f0 = 3 := by rw [hk]; decide
   rw [if_neg k3] at H
   have b3 : (t.f0 == 3) = false := beq_eq_false_iff_ne.mpr k3
   have k4 : ¬ t.f0 = 4 := by rw [hk]; decide
   rw [if_neg k4] at H
   have b4 : (t.f0 == 4) = false := beq_eq_false_iff_ne.mpr k4
   have k6 : ¬ t.f0 = 6 := by rw [hk]; decide
   rw [if_neg k6] at H
   have b6 : (t.f0 == 6) = false := beq_eq_false_iff_ne.mpr k6
   rw [if_pos hk] at H
   have b5 : (t.f0 == 5) = true := beq_iff_eq.mpr hk
   have H' := Aside0.mk H
   clear H
   have hFl : t.f3.length ≤ 9223372036854775807 := Kd.C_max (Kd.F_now hF)
   obtain ⟨cb, cf⟩ := HI.cellb at_ hat3
   go_upto_region 27 with (fail)
   have HJ := HI.set hbm at_ true
   clear HI cb cf
   clear c0 c1 c2 c3 d0 d1
   generalize World.setCell _ _ _ = W5 at HJ ⊢
   have HI := HJ
   clear HJ
   have c0 := HI.cell hpl hpb h0; have c1 := HI.cell hpl hpb h1; have c2 := HI.cell hpl hpb h2; have c3 := HI.cell hpl hpb h3; have d0 := HI.cell hgl hgb hg0; have d1 := HI.cell hgl hgb hg1
   go_wp2
   go_loopg [9, 139] t.f3.length (fun kq s9 s wr => ∃ (j : Nat) (o : List Bool) (b1 e1 : Nat), s9 = sv b1 n e1 ∧ s = .int .i64 (j : Int) ∧ Aside0 (kq + j = t.f3.length) ∧ Aside0 (Inv w wr ok g bm Aw cw lw n b1 e1 o) ∧ Aside0 (catL (fun c j => endF k c j lw) (t.f3.drop j) o = some r))
   case atStart => exact ⟨0, _, bo, co, rfl, rfl, ⟨rfl⟩, ⟨HI⟩, H'⟩
   case round =>
    clear HI H'
    clear c0 c1 c2 c3 d0 d1
    obtain ⟨j, o, b1, e1, rfl, rfl, hq, HI, Hn⟩ := hrel
    replace HI := HI.out
    replace Hn := Hn.out
    have hq1 := hq.out
    have c0 := HI.cell hpl hpb h0; have c1 := HI.cell hpl hpb h1; have c2 := HI.cell hpl hpb h2; have c3 := HI.cell hpl hpb h3; have d0 := HI.cell hgl hgb hg0; have d1 := HI.cell hgl hgb hg1
    by_cases hj : j < t.f3.length
    ·obtain ⟨k1, rfl, hq3⟩ := pred_ex hq1 hj
     have j0 := tr_ge j
     have j1 := tr_lt hj
     have j2 := tr_dlt hj
     obtain ⟨o2, hrow, Hr⟩ := catL_step hj Hn
     have hol := HI.len
     rw [hol] at hrow
     have hol' := Aside0.mk hol
     clear hol
     have Hrow' := Aside0.mk hrow
     have Hr' := Aside0.mk Hr
     clear Hn Hr hrow
     obtain ⟨qb, qo, e, hNc⟩ := F_row hF j hj
     subst e
     have hNd := Aside0.mk hNc
     clear hNc
     go_wp2_with (first | ((with_reducible refine gate_dst (N := 144) rfl ?_); refine Kd.R_make Kd.bool w.heap.size 4 rfl (N := 144) rfl 95 _ _ rfl (n : Int) rfl rfl Try.underlying95 (.bool false) 1 info4 rfl (by decide) (by decide) false (ok := fun _ => True) (okp := fun _ => True) rfl (fun _ hk => hk) trivial (Int.natCast_nonneg _) (by rw [Int.toNat_natCast]; exact hnk.out) (Below.refl _ _) HI.kept.1 ?_; intro v1 W hv1 hbe hg hat; rw [Int.toNat_natCast] at hv1; obtain ⟨bx, cx, rfl, hbx, hblt, hown⟩ := row_made hnn.out hv1 hat; have HI2 := Inv.made hnn.out HI.same HI.kept HI.inv hg hbx hblt hown; have HO := Kd.R_step HI.own (fun k hk hlt => hg.block k hlt (by simp)); have hne := Aside0.mk (show b1 ≠ bx by have := HI.lt; omega); have hb1 := Aside0.mk (show w.heap.size ≤ b1 ∧ bm < w.heap.size from ⟨HI.base, hbm⟩); have hb2 := Aside0.mk (show b1 ≠ bm from Nat.ne_of_gt (Nat.lt_of_lt_of_le hbm HI.base)); clear hv1 hat hown HI; clear c0 c1 c2 c3 d0 d1; have c0 := HI2.cell hpl hpb h0; have c1 := HI2.cell hpl hpb h1; have c2 := HI2.cell hpl hpb h2; have c3 := HI2.cell hpl hpb h3; have d0 := HI2.cell hgl hgb hg0; have d1 := HI2.cell hgl hgb hg1))
     go_loopg [147] n (fun kq s wr => ∃ (i : Nat) (x : List Bool), s = .int .i64 (i : Int) ∧ Aside0 (kq + i = n) ∧ Aside0 (Inv w wr (fun k => ok k ∧ k ≠ b1) g bm Aw cw lw n bx cx x) ∧ Aside0 (Kd.R Kd.bool 4 wr w.heap.size (fun k => k = b1) (sv b1 n e1) o) ∧ Aside0 (catRow (fun j' => endF k (t.f3.getD j z28) j' lw) (o.drop i) i x = some o2))
     case atStart => exact ⟨0, _, rfl, ⟨rfl⟩, ⟨HI2⟩, ⟨HO⟩, Hrow'⟩
     case round =>
      as_aux_lemma =>
       clear HI2 HO Hrow'
       clear c0 c1 c2 c3 d0 d1
       obtain ⟨i, x, rfl, hqi, HI2, HO, Hn⟩ := hrel
       replace HI2 := HI2.out
       replace HO := HO.out
       replace Hn := Hn.out
       have hq2 := hqi.out
       have hnl := hnn.out
       clear hqi
       have c0 := HI2.cell hpl hpb h0; have c1 := HI2.cell hpl hpb h1; have c2 := HI2.cell hpl hpb h2; have c3 := HI2.cell hpl hpb h3; have d0 := HI2.cell hgl hgb hg0; have d1 := HI2.cell hgl hgb hg1
       by_cases hi : i < n
       ·obtain ⟨k2, rfl, hq4⟩ := pred_ex hq2 hi
        have i0 := tr_ge i
        have i1 := tr_lt hi
        have i2 := tr_dlt hi
        obtain ⟨cb, cf⟩ := Kd.R_celln false HO (i : Int) (Int.natCast_nonneg _) (Int.ofNat_lt.2 hi)
        rw [Int.toNat_natCast] at cb
        clear cf
        rcases catRow_step (by rw [hol'.out]; exact hi) Hn with ⟨hbi, m, o', hf, hjn, Hn2⟩ | ⟨hbi, Hn2⟩
        ·rw [hbi] at cb
         have Hn' := Aside0.mk Hn2
         clear Hn Hn2 hbi hnl
         go_wp2_with (fail)
         refine (HI2.call ih hbm (fun j hj => ⟨hfr j (Nat.le_trans HI2.kept.1 hj), Nat.ne_of_gt (Nat.lt_of_lt_of_le (Kd.R_lt HO b1 rfl) hj)⟩) (okn := ok) hNd.out (fun k hk e => hR.nok (e ▸ hk)) (fun k hk hlt => ⟨hk, Nat.ne_of_lt (Nat.lt_of_lt_of_le hlt hb1.out.1)⟩) hf).mono ?_
         rintro e W9 ⟨Am, cm, rfl, hm1, hm2, HJ, HKm⟩
         dsimp only
         clear HI2
         clear c0 c1 c2 c3 d0 d1
         have HI2 := HJ
         clear HJ
         replace HO := Kd.R_step HO (fun k hk hlt => HKm.2 k hlt (hk ▸ hb2.out))
         have c0 := HI2.cell hpl hpb h0
         have c1 := HI2.cell hpl hpb h1
         have c2 := HI2.cell hpl hpb h2
         have c3 := HI2.cell hpl hpb h3
         have d0 := HI2.cell hgl hgb hg0
         have d1 := HI2.cell hgl hgb hg1
         go_wp2_with (fail)
         refine (HI2.join hbm hm2 hm1 hjn).mono ?_
         rintro e W10 ⟨rfl, HJ, HKj⟩
         dsimp only
         clear HI2
         clear c0 c1 c2 c3 d0 d1
         have HI2 := HJ
         clear HJ
         replace HO := Kd.R_step HO (fun k hk hlt => HKj.2 k hlt (hk ▸ hne.out))
         have c0 := HI2.cell hpl hpb h0
         have c1 := HI2.cell hpl hpb h1
         have c2 := HI2.cell hpl hpb h2
         have c3 := HI2.cell hpl hpb h3
         have d0 := HI2.cell hgl hgb hg0
         have d1 := HI2.cell hgl hgb hg1
         go_wp2
         go_roundg k2
         case measure => exact Nat.lt_succ_self _
         case rel => exact ⟨i + 1, _, (by first | rfl | go_num), hq4, ⟨HI2⟩, ⟨HO⟩, Hn'⟩
        ·rw [hbi] at cb
         have Hn' := Aside0.mk Hn2
         clear Hn Hn2 hbi hnl
         go_wp2
         go_roundg k2
         case measure => exact Nat.lt_succ_self _
         case rel => exact ⟨i + 1, _, (by first | rfl | go_num), hq4, ⟨HI2⟩, ⟨HO⟩, Hn'⟩
       ·
        have i1 := fl_lt hi
        have i2 := fl_dlt hi
        rw [List.drop_eq_nil_of_le (by rw [hol'.out]; exact Nat.le_of_not_lt hi)] at Hn
        obtain rfl : x = o2 := Option.some.inj Hn
        clear hnl
        go_wp2
        go_roundg k1
        case measure => exact Nat.lt_succ_self _
        case rel => exact ⟨j + 1, _, bx, cx, rfl, (by first | rfl | go_num), hq3, ⟨HI2.weak (fun k hk => hk.1) hR.nok⟩, Hr'⟩
    ·
     have j1 := fl_lt hj
     have j2 := fl_dlt hj
     rw [List.drop_eq_nil_of_le (Nat.le_of_not_lt hj)] at Hn
     obtain rfl : o = r := Option.some.inj Hn
     go_wp2
     go_meet
     case rel => exact ⟨b1, e1, rfl, HI⟩
set_option maxHeartbeats 8000000 in
set_option maxRecDepth 100000 in
theorem end_flat {k : Nat} (ih : EndS k) : EndK k (fun t => t.f0 ≠ 4 ∧ t.f0 ≠ 6 ∧ t.f0 ≠ 5 ∧ t.f0 ≠ 7) := by
 intro t at_ r p g bm Aw cw lw ok w hk h hR hN hfr
 replace hk : t.f0 ≠ 4 ∧ t.f0 ≠ 6 ∧ t.f0 ≠ 5 ∧ t.f0 ≠ 7 := hk
 have hP : PlainAt w p := hN.2.2.1
 have hbm := hR.blt
 obtain ⟨es, clk, hb, he⟩ := hR.map
 obtain ⟨v, b, hrun, hv⟩ := lookup_run w (at_ : Int) hP hb (KeysOk.of he)
 have hg0 : w.cell? ⟨g, 0, none⟩ = some (.slice Aw lw.length cw) := (blk_cell hR.blk 0).trans rfl
 have hg1 : w.cell? ⟨g, 1, none⟩ = some (.map (some bm)) := (blk_cell hR.blk 1).trans rfl
 have hlw : at_ ≤ lw.length ∧ lw.length < 140737488355327 := by
  unfold endF at h
  by_cases hh : at_ ≤ lw.length ∧ lw.length < 140737488355327
  ·exact hh
  ·rw [if_neg hh] at h; cases h
 obtain ⟨n, hn⟩ : ∃ n, n = lw.length + 1 := ⟨_, rfl⟩
 have hw1 : ((lw.length : Int) + 1).toNat = n := by omega
 have hnn := Aside0.mk hn
 clear hn
 go_enter Try.func49, Try.ntmps49
 unfold keyV at hrun
 go_upto_if 29 with (fail)
 cases b with
 | true =>
  obtain ⟨e, hm, hk, rfl⟩ := hv rfl
  obtain ⟨A, c, ev, h1, h2⟩ := found h hN (he e hm) hk
  rw [ev]
  go_wp2
  go_ret
  exact ⟨A, c, rfl, h1, h2, hR, Kept.refl _ _, Same.refl _⟩
 | false =>
  clear hv hrun
  have hpl := hN.lt
  have hgl := hR.glt
  have hgb : g ≠ bm := fun e => hR.nok (e ▸ hR.okg)
  have hpb : p.block ≠ bm := fun e => hR.nok (e ▸ hN.1)
  obtain ⟨pb, po, Ap, cp, rfl, h0, h1, h2, h3, hcp, hF⟩ := hN.open
  go_upto_region 5 with (first | ((with_reducible refine gate_dst (N := 37) rfl ?_); refine Kd.R_make Kd.bool w.heap.size 4 rfl (N := 37) rfl 95 _ _ rfl ((lw.length : Int) + 1) rfl rfl Try.underlying95 (.bool false) 1 info4 rfl (by decide) (by omega) false (ok := fun _ => True) (okp := fun _ => True) rfl (fun _ hk => hk) trivial (by omega) (by rw [hw1]; omega) (Below.refl _ _) (Nat.le_refl _) ?_; intro v1 W hv1 hb1 hg hat; rw [hw1] at hv1; obtain ⟨bo, co, rfl, hbo, hblt, hown⟩ := row_made hnn.out hv1 hat; have HI := Inv.made hnn.out (Same.refl _) (Kept.refl _ _) hR hg hbo hblt hown; clear hv1 hat hown; have c0 := HI.cell hpl hpb h0; have c1 := HI.cell hpl hpb h1; have c2 := HI.cell hpl hpb h2; have c3 := HI.cell hpl hpb h3; have d0 := HI.cell hgl hgb hg0; have d1 := HI.cell hgl hgb hg1))
  go_upto_block 0 with (fail)
  go_cut [9] from 10 (fun s9 wc => ∃ b1 c1, s9 = sv b1 n c1 ∧ Inv w wc ok g bm Aw cw lw n b1 c1 r)
  case rest =>
   clear HI
   obtain ⟨b1, c1, rfl, HI⟩ := hcut
   have c0 := HI.cell hpl hpb h0
   have d0 := HI.cell hgl hgb hg0
   have d1 := HI.cell hgl hgb hg1
   have hb1 := HI.base
   have hNr := HI.node (okn := ok) hN (fun k hk e => hR.nok (e ▸ hk)) (fun k hk _ => hk)
   obtain ⟨es1, clk1, hbr, her⟩ := HI.inv.map
   obtain ⟨es2, clk2, hup, hes2⟩ := update_run wc (at_ : Int) (sv b1 n c1) hNr.2.2.1 hbr (KeysOk.of her)
   unfold keyV at hup
   go_wp2
   obtain ⟨q1, q2, q3, q4⟩ := HI.stored hbm (hfr b1 hb1) hR.nok (hNr.mono (fun k hk => hk.1)) h (by rw [HI.len]; exact (Kd.R_reads' HI.own).2.1) hbr her rfl hes2
   go_ret
   exact ⟨some ⟨b1, 0, none⟩, c1, by rw [HI.len]; rfl, by rw [HI.len]; exact (Kd.R_reads' HI.own).2.1, q1, q2, q3, q4⟩
  case first =>
   have H := h
   unfold endF at H
   rw [if_pos hlw, ← hnn.out] at H
   have hat3 : at_ < n := by have := hnn.out; omega
   have hnm : n ≤ 9223372036854775807 := by have := hnn.out; omega
   have hnk := Aside0.mk (show n * 1 ≤ 281474976710656 by have := hnn.out; omega)
   have hat1 := tr_ge at_
   have hat2 := tr_lt hat3
   by_cases k2 : t.f0 = 2
   ·rw [if_pos k2] at H
    have b2 : (t.f0 == 2) = true := beq_iff_eq.mpr k2
    obtain rfl := Option.some.inj H
    obtain ⟨cb, cf⟩ := HI.cellb at_ hat3
    go_wp2
    go_meet
    case rel => exact ⟨bo, co, rfl, HI.set hbm at_ true⟩
   rw [if_neg k2] at H
   have b2 : (t.f0 == 2) = false := beq_eq_false_iff_ne.mpr k2
   by_cases k3 : t.f0 = 3
   ·rw [if_pos k3] at H
    have b3 : (t.f0 == 3) = true := beq_iff_eq.mpr k3
    by_cases ki : isB lw at_ t.f1 = true
    ·rw [if_pos ki] at H
     obtain rfl := Option.some.inj H
     have hi4 := isB_lt ki hnn.out
     have hi5 := tr_suc hi4
     have hi6 := tr_suc0 at_
     have hi7 := toNat_suc at_
     obtain ⟨cb, cf⟩ := HI.cellb (at_ + 1) hi4
     go_wp2_with (first | ((with_reducible refine gate_callee (f := 69) rfl ?_); refine goesL_ (some 55) rfl rfl Try.func69 (by kernel_rfl) rfl #[.pointer (some ⟨g, 0, none⟩), .int .i64 ((at_ : Nat) : Int), .int .i64 t.f1] rfl (by (try simp only [List.map_toArray, List.map_cons, List.map_nil]); first | done | rfl) ?_; (refine (reader_is_calls HI.inv at_ t.f1).mono ?_); rintro e W9 ⟨rfl, rfl⟩; refine ⟨_, rfl, ?_⟩; rw [ki]))
     go_meet
     case rel => exact ⟨bo, co, rfl, HI.set hbm (at_ + 1) true⟩
    ·rw [if_neg ki] at H
     rw [Bool.not_eq_true] at ki
     obtain rfl := Option.some.inj H
     go_wp2_with (first | ((with_reducible refine gate_callee (f := 69) rfl ?_); refine goesL_ (some 55) rfl rfl Try.func69 (by kernel_rfl) rfl #[.pointer (some ⟨g, 0, none⟩), .int .i64 ((at_ : Nat) : Int), .int .i64 t.f1] rfl (by (try simp only [List.map_toArray, List.map_cons, List.map_nil]); first | done | rfl) ?_; (refine (reader_is_calls HI.inv at_ t.f1).mono ?_); rintro e W9 ⟨rfl, rfl⟩; refine ⟨_, rfl, ?_⟩; rw [ki]))
     go_meet
     case rel => exact ⟨bo, co, rfl, HI⟩
   rw [if_neg k3] at H
   have b3 : (t.f0 == 3) = false := beq_eq_false_iff_ne.mpr k3
   by_cases k4 : t.f0 = 4
   ·rw [if_pos k4] at H
    have b4 : (t.f0 == 4) = true := beq_iff_eq.mpr k4
    exact absurd k4 hk.1
   rw [if_neg k4] at H
   have b4 : (t.f0 == 4) = false := beq_eq_false_iff_ne.mpr k4
   by_cases k6 : t.f0 = 6
   ·rw [if_pos k6] at H
    have b6 : (t.f0 == 6) = true := beq_iff_eq.mpr k6
    exact absurd k6 hk.2.1
   rw [if_neg k6] at H
   have b6 : (t.f0 == 6) = false := beq_eq_false_iff_ne.mpr k6
   by_cases k5 : t.f0 = 5
   ·rw [if_pos k5] at H
    have b5 : (t.f0 == 5) = true := beq_iff_eq.mpr k5
    exact absurd k5 hk.2.2.1
   rw [if_neg k5] at H
   have b5 : (t.f0 == 5) = false := beq_eq_false_iff_ne.mpr k5
   by_cases k7 : t.f0 = 7
   ·rw [if_pos k7] at H
    have b7 : (t.f0 == 7) = true := beq_iff_eq.mpr k7
    exact absurd k7 hk.2.2.2
   rw [if_neg k7] at H
   have b7 : (t.f0 == 7) = false := beq_eq_false_iff_ne.mpr k7
   obtain rfl := Option.some.inj H
   go_wp2
   go_meet
   case rel => exact ⟨bo, co, rfl, HI⟩
set_option maxHeartbeats 8000000 in
set_option maxRecDepth 100000 in
theorem end_nest {k : Nat} (ih : EndS k) : EndK k (fun t => t.f0 = 4) := by
 intro t at_ r p g bm Aw cw lw ok w hk h hR hN hfr
 replace hk : t.f0 = 4 := hk
 have hP : PlainAt w p := hN.2.2.1
 have hbm := hR.blt
 obtain ⟨es, clk, hb, he⟩ := hR.map
 obtain ⟨v, b, hrun, hv⟩ := lookup_run w (at_ : Int) hP hb (KeysOk.of he)
 have hg0 : w.cell? ⟨g, 0, none⟩ = some (.slice Aw lw.length cw) := (blk_cell hR.blk 0).trans rfl
 have hg1 : w.cell? ⟨g, 1, none⟩ = some (.map (some bm)) := (blk_cell hR.blk 1).trans rfl
 have hlw : at_ ≤ lw.length ∧ lw.length < 140737488355327 := by
  unfold endF at h
  by_cases hh : at_ ≤ lw.length ∧ lw.length < 140737488355327
  ·exact hh
  ·rw [if_neg hh] at h; cases h
 obtain ⟨n, hn⟩ : ∃ n, n = lw.length + 1 := ⟨_, rfl⟩
 have hw1 : ((lw.length : Int) + 1).toNat = n := by omega
 have hnn := Aside0.mk hn
 clear hn
 go_enter Try.func49, Try.ntmps49
 unfold keyV at hrun
 go_upto_if 29 with (fail)
 cases b with
 | true =>
  obtain ⟨e, hm, hk, rfl⟩ := hv rfl
  obtain ⟨A, c, ev, h1, h2⟩ := found h hN (he e hm) hk
  rw [ev]
  go_wp2
  go_ret
  exact ⟨A, c, rfl, h1, h2, hR, Kept.refl _ _, Same.refl _⟩
 | false =>
  clear hv hrun
  have hpl := hN.lt
  have hgl := hR.glt
  have hgb : g ≠ bm := fun e => hR.nok (e ▸ hR.okg)
  have hpb : p.block ≠ bm := fun e => hR.nok (e ▸ hN.1)
  obtain ⟨pb, po, Ap, cp, rfl, h0, h1, h2, h3, hcp, hF⟩ := hN.open
  go_upto_region 5 with (first | ((with_reducible refine gate_dst (N := 37) rfl ?_); refine Kd.R_make Kd.bool w.heap.size 4 rfl (N := 37) rfl 95 _ _ rfl ((lw.length : Int) + 1) rfl rfl Try.underlying95 (.bool false) 1 info4 rfl (by decide) (by omega) false (ok := fun _ => True) (okp := fun _ => True) rfl (fun _ hk => hk) trivial (by omega) (by rw [hw1]; omega) (Below.refl _ _) (Nat.le_refl _) ?_; intro v1 W hv1 hb1 hg hat; rw [hw1] at hv1; obtain ⟨bo, co, rfl, hbo, hblt, hown⟩ := row_made hnn.out hv1 hat; have HI := Inv.made hnn.out (Same.refl _) (Kept.refl _ _) hR hg hbo hblt hown; clear hv1 hat hown; have c0 := HI.cell hpl hpb h0; have c1 := HI.cell hpl hpb h1; have c2 := HI.cell hpl hpb h2; have c3 := HI.cell hpl hpb h3; have d0 := HI.cell hgl hgb hg0; have d1 := HI.cell hgl hgb hg1))
  go_upto_block 0 with (fail)
  go_cut [9] from 10 (fun s9 wc => ∃ b1 c1, s9 = sv b1 n c1 ∧ Inv w wc ok g bm Aw cw lw n b1 c1 r)
  case rest =>
   clear HI
   obtain ⟨b1, c1, rfl, HI⟩ := hcut
   have c0 := HI.cell hpl hpb h0
   have d0 := HI.cell hgl hgb hg0
   have d1 := HI.cell hgl hgb hg1
   have hb1 := HI.base
   have hNr := HI.node (okn := ok) hN (fun k hk e => hR.nok (e ▸ hk)) (fun k hk _ => hk)
   obtain ⟨es1, clk1, hbr, her⟩ := HI.inv.map
   obtain ⟨es2, clk2, hup, hes2⟩ := update_run wc (at_ : Int) (sv b1 n c1) hNr.2.2.1 hbr (KeysOk.of her)
   unfold keyV at hup
   go_wp2
   obtain ⟨q1, q2, q3, q4⟩ := HI.stored hbm (hfr b1 hb1) hR.nok (hNr.mono (fun k hk => hk.1)) h (by rw [HI.len]; exact (Kd.R_reads' HI.own).2.1) hbr her rfl hes2
   go_ret
   exact ⟨some ⟨b1, 0, none⟩, c1, by rw [HI.len]; rfl, by rw [HI.len]; exact (Kd.R_reads' HI.own).2.1, q1, q2, q3, q4⟩
  case first =>
   have H := h
   unfold endF at H
   rw [if_pos hlw, ← hnn.out] at H
   have hat3 : at_ < n := by have := hnn.out; omega
   have hnm : n ≤ 9223372036854775807 := by have := hnn.out; omega
   have hnk := Aside0.mk (show n * 1 ≤ 281474976710656 by have := hnn.out; omega)
   have hat1 := tr_ge at_
   have hat2 := tr_lt hat3
   have k2 : ¬ t.f0 = 2 := by rw [hk]; decide
   rw [if_neg k2] at H
   have b2 : (t.f0 == 2) = false := beq_eq_false_iff_ne.mpr k2
   have k3 : ¬ t.f0 = 3 := by rw [hk]; decide
   rw [if_neg k3] at H
   have b3 : (t.f0 == 3) = false := beq_eq_false_iff_ne.mpr k3
   rw [if_pos hk] at H
   have b4 : (t.f0 == 4) = true := beq_iff_eq.mpr hk
   by_cases kl : t.f3.length = 1
   ·have bl : ((t.f3.length : Int) == 1) = true := by rw [kl]; rfl
    by_cases ki : isB lw at_ t.f1 = true
    ·rw [if_pos ⟨kl, ki⟩] at H
     obtain ⟨m, hf, H⟩ := bind_some H
     have H := Option.some.inj H
     have H' := Aside0.mk H
     clear H
     have hl0 : (0 < (t.f3.length : Int)) = True := eq_true (by rw [kl]; decide)
     obtain ⟨qb, qo, e, hNc⟩ := F_child hF 0 (by rw [kl]; decide)
     subst e
     have hNd := Aside0.mk hNc
     clear hNc
     go_wp2_with (first | ((refine (reader_is_calls HI.inv at_ t.f1).mono ?_); rintro e W9 ⟨rfl, rfl⟩; rw [ki]; dsimp only) | fail)
     refine (HI.call ih hbm (fun j hj => hfr j (Nat.le_trans HI.kept.1 hj)) (okn := ok) hNd.out (fun k hk e => hR.nok (e ▸ hk)) (fun k hk _ => hk) hf).mono ?_
     rintro e W9 ⟨Am, cm, rfl, hm1, hm2, HJ, HKm⟩
     dsimp only
     clear HI
     clear c0 c1 c2 c3 d0 d1
     have HI := HJ
     clear HJ
     have c0 := HI.cell hpl hpb h0
     have c1 := HI.cell hpl hpb h1
     have c2 := HI.cell hpl hpb h2
     have c3 := HI.cell hpl hpb h3
     have d0 := HI.cell hgl hgb hg0
     have d1 := HI.cell hgl hgb hg1
     go_wp2
     go_loopg [87] m.length (fun kq s87 wr => ∃ (j : Nat) (o : List Bool), s87 = .int .i64 (j : Int) ∧ Aside0 (kq + j = m.length) ∧ Aside0 (Inv w wr ok g bm Aw cw lw n bo co o) ∧ Aside0 (nestL lw t.f2 (m.drop j) j o = r) ∧ Aside0 (Kd.F Kd.bool wr (fun k => ok k ∧ k ≠ bo) Am m.length m))
     case atStart => exact ⟨0, _, rfl, ⟨rfl⟩, ⟨HI⟩, H', ⟨hm2⟩⟩
     case round =>
      have hmm : m.length ≤ 9223372036854775807 := Kd.C_max (Kd.F_now hm2)
      clear HI hm2 H' HKm
      clear c0 c1 c2 c3 d0 d1
      obtain ⟨j, o, rfl, hq, HI, Hn, hm2⟩ := hrel
      replace HI := HI.out
      replace hm2 := hm2.out
      replace Hn := Hn.out
      have hq1 := hq.out
      have c0 := HI.cell hpl hpb h0; have c1 := HI.cell hpl hpb h1; have c2 := HI.cell hpl hpb h2; have c3 := HI.cell hpl hpb h3; have d0 := HI.cell hgl hgb hg0; have d1 := HI.cell hgl hgb hg1
      by_cases hj : j < m.length
      ·obtain ⟨k1, rfl, hq3⟩ := pred_ex hq1 hj
       have j0 := tr_ge j
       have j1 := tr_lt hj
       have j2 := tr_dlt hj
       obtain ⟨ad, e, hx⟩ := Kd.at_bool (Kd.F_now hm2) (j : Int) (Int.natCast_nonneg _) (Int.ofNat_lt.2 hj)
       rw [Int.toNat_natCast] at hx
       subst e
       rw [nestL_step hj] at Hn
       cases hbj : rdOf false m (j : Int) with
       | true =>
        rw [hbj] at hx
        by_cases kj : isB lw j t.f2 = true
        ·rw [hbj, kj, Bool.true_and, if_pos rfl] at Hn
         have Hn' := Aside0.mk Hn
         clear Hn hbj hq
         have hi4 := isB_lt kj hnn.out
         have hi5 := tr_suc hi4
         have hi6 := tr_suc0 j
         have hi7 := toNat_suc j
         obtain ⟨cb, cf⟩ := HI.cellb (j + 1) hi4
         go_wp2_with (first | ((refine (reader_is_calls HI.inv j t.f2).mono ?_); rintro e W9 ⟨rfl, rfl⟩; rw [kj]; dsimp only))
         go_roundg k1
         case measure => exact Nat.lt_succ_self _
         case rel => exact ⟨j + 1, _, (by first | rfl | go_num), hq3, ⟨HI.set hbm (j + 1) true⟩, Hn', ⟨Kd.F_far hm2 (p := ⟨bo, j + 1, none⟩) (fun k hk => hk.2) _⟩⟩
        ·rw [Bool.not_eq_true] at kj
         rw [hbj, kj, Bool.true_and, if_neg (by decide)] at Hn
         have Hn' := Aside0.mk Hn
         clear Hn hbj
         go_wp2_with (first | ((refine (reader_is_calls HI.inv j t.f2).mono ?_); rintro e W9 ⟨rfl, rfl⟩; rw [kj]; dsimp only))
         go_roundg k1
         case measure => exact Nat.lt_succ_self _
         case rel => exact ⟨j + 1, _, (by first | rfl | go_num), hq3, ⟨HI⟩, Hn', ⟨hm2⟩⟩
       | false =>
        rw [hbj] at hx
        rw [hbj, Bool.false_and, if_neg (by decide)] at Hn
        have Hn' := Aside0.mk Hn
        clear Hn hbj
        go_wp2
        go_roundg k1
        case measure => exact Nat.lt_succ_self _
        case rel => exact ⟨j + 1, _, (by first | rfl | go_num), hq3, ⟨HI⟩, Hn', ⟨hm2⟩⟩
      ·
       have j1 := fl_lt hj
       have j2 := fl_dlt hj
       rw [List.drop_eq_nil_of_le (Nat.le_of_not_lt hj)] at Hn
       obtain rfl : o = r := Hn
       go_wp2
       go_meet
       case rel => exact ⟨bo, co, rfl, HI⟩
    ·rw [if_neg (fun hh => ki hh.2)] at H
     rw [Bool.not_eq_true] at ki
     obtain rfl := Option.some.inj H
     go_wp2_with (first | ((refine (reader_is_calls HI.inv at_ t.f1).mono ?_); rintro e W9 ⟨rfl, rfl⟩; rw [ki]; dsimp only))
     go_meet
     case rel => exact ⟨bo, co, rfl, HI⟩
   ·have bl := ne_one kl
    rw [if_neg (fun hh => kl hh.1)] at H
    obtain rfl := Option.some.inj H
    go_wp2
    go_meet
    case rel => exact ⟨bo, co, rfl, HI⟩
set_option maxHeartbeats 8000000 in
set_option maxRecDepth 100000 in
theorem end_or {k : Nat} (ih : EndS k) : EndK k (fun t => t.f0 = 6) := by
 intro t at_ r p g bm Aw cw lw ok w hk h hR hN hfr
 replace hk : t.f0 = 6 := hk
 have hP : PlainAt w p := hN.2.2.1
 have hbm := hR.blt
 obtain ⟨es, clk, hb, he⟩ := hR.map
 obtain ⟨v, b, hrun, hv⟩ := lookup_run w (at_ : Int) hP hb (KeysOk.of he)
 have hg0 : w.cell? ⟨g, 0, none⟩ = some (.slice Aw lw.length cw) := (blk_cell hR.blk 0).trans rfl
 have hg1 : w.cell? ⟨g, 1, none⟩ = some (.map (some bm)) := (blk_cell hR.blk 1).trans rfl
 have hlw : at_ ≤ lw.length ∧ lw.length < 140737488355327 := by
  unfold endF at h
  by_cases hh : at_ ≤ lw.length ∧ lw.length < 140737488355327
  ·exact hh
  ·rw [if_neg hh] at h; cases h
 obtain ⟨n, hn⟩ : ∃ n, n = lw.length + 1 := ⟨_, rfl⟩
 have hw1 : ((lw.length : Int) + 1).toNat = n := by omega
 have hnn := Aside0.mk hn
 clear hn
 go_enter Try.func49, Try.ntmps49
 unfold keyV at hrun
 go_upto_if 29 with (fail)
 cases b with
 | true =>
  obtain ⟨e, hm, hk, rfl⟩ := hv rfl
  obtain ⟨A, c, ev, h1, h2⟩ := found h hN (he e hm) hk
  rw [ev]
  go_wp2
  go_ret
  exact ⟨A, c, rfl, h1, h2, hR, Kept.refl _ _, Same.refl _⟩
 | false =>
  clear hv hrun
  have hpl := hN.lt
  have hgl := hR.glt
  have hgb : g ≠ bm := fun e => hR.nok (e ▸ hR.okg)
  have hpb : p.block ≠ bm := fun e => hR.nok (e ▸ hN.1)
  obtain ⟨pb, po, Ap, cp, rfl, h0, h1, h2, h3, hcp, hF⟩ := hN.open
  go_upto_region 5 with (first | ((with_reducible refine gate_dst (N := 37) rfl ?_); refine Kd.R_make Kd.bool w.heap.size 4 rfl (N := 37) rfl 95 _ _ rfl ((lw.length : Int) + 1) rfl rfl Try.underlying95 (.bool false) 1 info4 rfl (by decide) (by omega) false (ok := fun _ => True) (okp := fun _ => True) rfl (fun _ hk => hk) trivial (by omega) (by rw [hw1]; omega) (Below.refl _ _) (Nat.le_refl _) ?_; intro v1 W hv1 hb1 hg hat; rw [hw1] at hv1; obtain ⟨bo, co, rfl, hbo, hblt, hown⟩ := row_made hnn.out hv1 hat; have HI := Inv.made hnn.out (Same.refl _) (Kept.refl _ _) hR hg hbo hblt hown; clear hv1 hat hown; have c0 := HI.cell hpl hpb h0; have c1 := HI.cell hpl hpb h1; have c2 := HI.cell hpl hpb h2; have c3 := HI.cell hpl hpb h3; have d0 := HI.cell hgl hgb hg0; have d1 := HI.cell hgl hgb hg1))
  go_upto_block 0 with (fail)
  go_cut [9] from 10 (fun s9 wc => ∃ b1 c1, s9 = sv b1 n c1 ∧ Inv w wc ok g bm Aw cw lw n b1 c1 r)
  case rest =>
   clear HI
   obtain ⟨b1, c1, rfl, HI⟩ := hcut
   have c0 := HI.cell hpl hpb h0
   have d0 := HI.cell hgl hgb hg0
   have d1 := HI.cell hgl hgb hg1
   have hb1 := HI.base
   have hNr := HI.node (okn := ok) hN (fun k hk e => hR.nok (e ▸ hk)) (fun k hk _ => hk)
   obtain ⟨es1, clk1, hbr, her⟩ := HI.inv.map
   obtain ⟨es2, clk2, hup, hes2⟩ := update_run wc (at_ : Int) (sv b1 n c1) hNr.2.2.1 hbr (KeysOk.of her)
   unfold keyV at hup
   go_wp2
   obtain ⟨q1, q2, q3, q4⟩ := HI.stored hbm (hfr b1 hb1) hR.nok (hNr.mono (fun k hk => hk.1)) h (by rw [HI.len]; exact (Kd.R_reads' HI.own).2.1) hbr her rfl hes2
   go_ret
   exact ⟨some ⟨b1, 0, none⟩, c1, by rw [HI.len]; rfl, by rw [HI.len]; exact (Kd.R_reads' HI.own).2.1, q1, q2, q3, q4⟩
  case first =>
   have H := h
   unfold endF at H
   rw [if_pos hlw, ← hnn.out] at H
   have hat3 : at_ < n := by have := hnn.out; omega
   have hnm : n ≤ 9223372036854775807 := by have := hnn.out; omega
   have hnk := Aside0.mk (show n * 1 ≤ 281474976710656 by have := hnn.out; omega)
   have hat1 := tr_ge at_
   have hat2 := tr_lt hat3
   have k2 : ¬ t.f0 = 2 := by rw [hk]; decide
   rw [if_neg k2] at H
   have b2 : (t.f0 == 2) = false := beq_eq_false_iff_ne.mpr k2
   have k3 : ¬ t.f0 = 3 := by rw [hk]; decide
   rw [if_neg k3] at H
   have b3 : (t.f0 == 3) = false := beq_eq_false_iff_ne.mpr k3
   have k4 : ¬ t.f0 = 4 := by rw [hk]; decide
   rw [if_neg k4] at H
   have b4 : (t.f0 == 4) = false := beq_eq_false_iff_ne.mpr k4
   rw [if_pos hk] at H
   have b6 : (t.f0 == 6) = true := beq_iff_eq.mpr hk
   have H' := Aside0.mk H
   clear H
   have hFl : t.f3.length ≤ 9223372036854775807 := Kd.C_max (Kd.F_now hF)
   go_wp2
   go_loopg [114] t.f3.length (fun kq s wr => ∃ (j : Nat) (o : List Bool), s = .int .i64 (j : Int) ∧ Aside0 (kq + j = t.f3.length) ∧ Aside0 (Inv w wr ok g bm Aw cw lw n bo co o) ∧ Aside0 (orL (fun c => endF k c at_ lw) (t.f3.drop j) o = some r))
   case atStart => exact ⟨0, _, rfl, ⟨rfl⟩, ⟨HI⟩, H'⟩
   case round =>
    clear HI H'
    clear c0 c1 c2 c3 d0 d1
    obtain ⟨j, o, rfl, hq, HI, Hn⟩ := hrel
    replace HI := HI.out
    replace Hn := Hn.out
    have hq1 := hq.out
    have c0 := HI.cell hpl hpb h0; have c1 := HI.cell hpl hpb h1; have c2 := HI.cell hpl hpb h2; have c3 := HI.cell hpl hpb h3; have d0 := HI.cell hgl hgb hg0; have d1 := HI.cell hgl hgb hg1
    by_cases hj : j < t.f3.length
    ·obtain ⟨k1, rfl, hq3⟩ := pred_ex hq1 hj
     have j0 := tr_ge j
     have j1 := tr_lt hj
     have j2 := tr_dlt hj
     obtain ⟨m, o', hf, hjn, Hr⟩ := orL_step hj Hn
     have Hr' := Aside0.mk Hr
     clear Hn Hr
     obtain ⟨qb, qo, e, hNc⟩ := F_row hF j hj
     subst e
     have hNd := Aside0.mk hNc
     clear hNc
     go_wp2_with (fail)
     refine (HI.call ih hbm (fun j hj => hfr j (Nat.le_trans HI.kept.1 hj)) (okn := ok) hNd.out (fun k hk e => hR.nok (e ▸ hk)) (fun k hk _ => hk) hf).mono ?_
     rintro e W9 ⟨Am, cm, rfl, hm1, hm2, HJ, HKm⟩
     dsimp only
     clear HI
     clear c0 c1 c2 c3 d0 d1
     have HI := HJ
     clear HJ
     have c0 := HI.cell hpl hpb h0
     have c1 := HI.cell hpl hpb h1
     have c2 := HI.cell hpl hpb h2
     have c3 := HI.cell hpl hpb h3
     have d0 := HI.cell hgl hgb hg0
     have d1 := HI.cell hgl hgb hg1
     go_wp2_with (fail)
     refine (HI.join hbm hm2 hm1 hjn).mono ?_
     rintro e W10 ⟨rfl, HJ, HKj⟩
     dsimp only
     clear HI
     clear c0 c1 c2 c3 d0 d1
     have HI := HJ
     clear HJ
     have c0 := HI.cell hpl hpb h0
     have c1 := HI.cell hpl hpb h1
     have c2 := HI.cell hpl hpb h2
     have c3 := HI.cell hpl hpb h3
     have d0 := HI.cell hgl hgb hg0
     have d1 := HI.cell hgl hgb hg1
     go_wp2
     go_roundg k1
     case measure => exact Nat.lt_succ_self _
     case rel => exact ⟨j + 1, _, (by first | rfl | go_num), hq3, ⟨HI⟩, Hr'⟩
    ·
     have j1 := fl_lt hj
     have j2 := fl_dlt hj
     rw [List.drop_eq_nil_of_le (Nat.le_of_not_lt hj)] at Hn
     obtain rfl : o = r := Option.some.inj Hn
     go_wp2
     go_meet
     case rel => exact ⟨bo, co, rfl, HI⟩
set_option maxHeartbeats 8000000 in
set_option maxRecDepth 100000 in
theorem end_star {k : Nat} (ih : EndS k) : EndK k (fun t => t.f0 = 7) := by
 intro t at_ r p g bm Aw cw lw ok w hk h hR hN hfr
 replace hk : t.f0 = 7 := hk
 have hP : PlainAt w p := hN.2.2.1
 have hbm := hR.blt
 obtain ⟨es, clk, hb, he⟩ := hR.map
 obtain ⟨v, b, hrun, hv⟩ := lookup_run w (at_ : Int) hP hb (KeysOk.of he)
 have hg0 : w.cell? ⟨g, 0, none⟩ = some (.slice Aw lw.length cw) := (blk_cell hR.blk 0).trans rfl
 have hg1 : w.cell? ⟨g, 1, none⟩ = some (.map (some bm)) := (blk_cell hR.blk 1).trans rfl
 have hlw : at_ ≤ lw.length ∧ lw.length < 140737488355327 := by
  unfold endF at h
  by_cases hh : at_ ≤ lw.length ∧ lw.length < 140737488355327
  ·exact hh
  ·rw [if_neg hh] at h; cases h
 obtain ⟨n, hn⟩ : ∃ n, n = lw.length + 1 := ⟨_, rfl⟩
 have hw1 : ((lw.length : Int) + 1).toNat = n := by omega
 have hnn := Aside0.mk hn
 clear hn
 go_enter Try.func49, Try.ntmps49
 unfold keyV at hrun
 go_upto_if 29 with (fail)
 cases b with
 | true =>
  obtain ⟨e, hm, hk, rfl⟩ := hv rfl
  obtain ⟨A, c, ev, h1, h2⟩ := found h hN (he e hm) hk
  rw [ev]
  go_wp2
  go_ret
  exact ⟨A, c, rfl, h1, h2, hR, Kept.refl _ _, Same.refl _⟩
 | false =>
  clear hv hrun
  have hpl := hN.lt
  have hgl := hR.glt
  have hgb : g ≠ bm := fun e => hR.nok (e ▸ hR.okg)
  have hpb : p.block ≠ bm := fun e => hR.nok (e ▸ hN.1)
  obtain ⟨pb, po, Ap, cp, rfl, h0, h1, h2, h3, hcp, hF⟩ := hN.open
  go_upto_region 5 with (first | ((with_reducible refine gate_dst (N := 37) rfl ?_); refine Kd.R_make Kd.bool w.heap.size 4 rfl (N := 37) rfl 95 _ _ rfl ((lw.length : Int) + 1) rfl rfl Try.underlying95 (.bool false) 1 info4 rfl (by decide) (by omega) false (ok := fun _ => True) (okp := fun _ => True) rfl (fun _ hk => hk) trivial (by omega) (by rw [hw1]; omega) (Below.refl _ _) (Nat.le_refl _) ?_; intro v1 W hv1 hb1 hg hat; rw [hw1] at hv1; obtain ⟨bo, co, rfl, hbo, hblt, hown⟩ := row_made hnn.out hv1 hat; have HI := Inv.made hnn.out (Same.refl _) (Kept.refl _ _) hR hg hbo hblt hown; clear hv1 hat hown; have c0 := HI.cell hpl hpb h0; have c1 := HI.cell hpl hpb h1; have c2 := HI.cell hpl hpb h2; have c3 := HI.cell hpl hpb h3; have d0 := HI.cell hgl hgb hg0; have d1 := HI.cell hgl hgb hg1))
  go_upto_block 0 with (fail)
  go_cut [9] from 10 (fun s9 wc => ∃ b1 c1, s9 = sv b1 n c1 ∧ Inv w wc ok g bm Aw cw lw n b1 c1 r)
  case rest =>
   clear HI
   obtain ⟨b1, c1, rfl, HI⟩ := hcut
   have c0 := HI.cell hpl hpb h0
   have d0 := HI.cell hgl hgb hg0
   have d1 := HI.cell hgl hgb hg1
   have hb1 := HI.base
   have hNr := HI.node (okn := ok) hN (fun k hk e => hR.nok (e ▸ hk)) (fun k hk _ => hk)
   obtain ⟨es1, clk1, hbr, her⟩ := HI.inv.map
   obtain ⟨es2, clk2, hup, hes2⟩ := update_run wc (at_ : Int) (sv b1 n c1) hNr.2.2.1 hbr (KeysOk.of her)
   unfold keyV at hup
   go_wp2
   obtain ⟨q1, q2, q3, q4⟩ := HI.stored hbm (hfr b1 hb1) hR.nok (hNr.mono (fun k hk => hk.1)) h (by rw [HI.len]; exact (Kd.R_reads' HI.own).2.1) hbr her rfl hes2
   go_ret
   exact ⟨some ⟨b1, 0, none⟩, c1, by rw [HI.len]; rfl, by rw [HI.len]; exact (Kd.R_reads' HI.own).2.1, q1, q2, q3, q4⟩
  case first =>
   have H := h
   unfold endF at H
   rw [if_pos hlw, ← hnn.out] at H
   have hat3 : at_ < n := by have := hnn.out; omega
   have hnm : n ≤ 9223372036854775807 := by have := hnn.out; omega
   have hnk := Aside0.mk (show n * 1 ≤ 281474976710656 by have := hnn.out; omega)
   have hat1 := tr_ge at_
   have hat2 := tr_lt hat3
   have k2 : ¬ t.f0 = 2 := by rw [hk]; decide
   rw [if_neg k2] at H
   have b2 : (t.f0 == 2) = false := beq_eq_false_iff_ne.mpr k2
   have k3 : ¬ t.f0 = 3 := by rw [hk]; decide
   rw [if_neg k3] at H
   have b3 : (t.f0 == 3) = false := beq_eq_false_iff_ne.mpr k3
   have k4 : ¬ t.f0 = 4 := by rw [hk]; decide
   rw [if_neg k4] at H
   have b4 : (t.f0 == 4) = false := beq_eq_false_iff_ne.mpr k4
   have k6 : ¬ t.f0 = 6 := by rw [hk]; decide
   rw [if_neg k6] at H
   have b6 : (t.f0 == 6) = false := beq_eq_false_iff_ne.mpr k6
   have k5 : ¬ t.f0 = 5 := by rw [hk]; decide
   rw [if_neg k5] at H
   have b5 : (t.f0 == 5) = false := beq_eq_false_iff_ne.mpr k5
   rw [if_pos hk] at H
   have b7 : (t.f0 == 7) = true := beq_iff_eq.mpr hk
   obtain ⟨cb, cf⟩ := HI.cellb at_ hat3
   go_upto_region 41 with (fail)
   have HJ := HI.set hbm at_ true
   clear HI cb cf
   clear c0 c1 c2 c3 d0 d1
   generalize World.setCell _ _ _ = W5 at HJ ⊢
   have HI := HJ
   clear HJ
   have c0 := HI.cell hpl hpb h0; have c1 := HI.cell hpl hpb h1; have c2 := HI.cell hpl hpb h2; have c3 := HI.cell hpl hpb h3; have d0 := HI.cell hgl hgb hg0; have d1 := HI.cell hgl hgb hg1
   by_cases kl : t.f3.length = 1
   ·have bl : ((t.f3.length : Int) == 1) = true := by rw [kl]; rfl
    rw [if_pos kl] at H
    have H' := Aside0.mk H
    clear H
    have hl0 : (0 < (t.f3.length : Int)) = True := eq_true (by rw [kl]; decide)
    obtain ⟨qb, qo, e, hNc⟩ := F_child hF 0 (by rw [kl]; decide)
    subst e
    have hNd := Aside0.mk hNc
    clear hNc
    go_wp2
    go_loopg [17] (lw.length + 3) (fun kq s wr => ∃ (j : Nat) (o : List Bool), s = .int .i64 (j : Int) ∧ Aside0 (Inv w wr ok g bm Aw cw lw n bo co o) ∧ Aside0 (starL (fun j => endF k (t.f3.getD 0 z28) j lw) kq j o = some r))
    case atStart => exact ⟨at_, _, rfl, ⟨HI⟩, H'⟩
    case round =>
     clear HI H'
     clear c0 c1 c2 c3 d0 d1
     obtain ⟨j, o, rfl, HI, Hn⟩ := hrel
     replace HI := HI.out
     replace Hn := Hn.out
     have c0 := HI.cell hpl hpb h0; have c1 := HI.cell hpl hpb h1; have c2 := HI.cell hpl hpb h2; have c3 := HI.cell hpl hpb h3; have d0 := HI.cell hgl hgb hg0; have d1 := HI.cell hgl hgb hg1
     have hol := HI.len
     have hnl := hnn.out
     by_cases hj : j < n
     ·obtain ⟨q1, rfl, hc⟩ := starL_step (by rw [hol]; exact hj) Hn
      clear Hn
      have j0 := tr_ge j
      have j1 := tr_lt hj
      have j2 := tr_dlt hj
      obtain ⟨cb, cf⟩ := HI.cellb j hj
      clear cf hol hnl
      rcases hc with ⟨hbi, m, o', hf, hjn, Hn2⟩ | ⟨hbi, Hn2⟩
      ·rw [hbi] at cb
       have Hn' := Aside0.mk Hn2
       clear Hn2 hbi
       go_wp2_with (fail)
       refine (HI.call ih hbm (fun j hj => hfr j (Nat.le_trans HI.kept.1 hj)) (okn := ok) hNd.out (fun k hk e => hR.nok (e ▸ hk)) (fun k hk _ => hk) hf).mono ?_
       rintro e W9 ⟨Am, cm, rfl, hm1, hm2, HJ, HKm⟩
       dsimp only
       clear HI
       clear c0 c1 c2 c3 d0 d1
       have HI := HJ
       clear HJ
       have c0 := HI.cell hpl hpb h0
       have c1 := HI.cell hpl hpb h1
       have c2 := HI.cell hpl hpb h2
       have c3 := HI.cell hpl hpb h3
       have d0 := HI.cell hgl hgb hg0
       have d1 := HI.cell hgl hgb hg1
       go_wp2_with (fail)
       refine (HI.join hbm hm2 hm1 hjn).mono ?_
       rintro e W10 ⟨rfl, HJ, HKj⟩
       dsimp only
       clear HI
       clear c0 c1 c2 c3 d0 d1
       have HI := HJ
       clear HJ
       have c0 := HI.cell hpl hpb h0
       have c1 := HI.cell hpl hpb h1
       have c2 := HI.cell hpl hpb h2
       have c3 := HI.cell hpl hpb h3
       have d0 := HI.cell hgl hgb hg0
       have d1 := HI.cell hgl hgb hg1
       go_wp2
       go_roundg q1
       case measure => exact Nat.lt_succ_self _
       case rel => exact ⟨j + 1, _, (by first | rfl | go_num), ⟨HI⟩, Hn'⟩
      ·rw [hbi] at cb
       have Hn' := Aside0.mk Hn2
       clear Hn2 hbi
       go_wp2
       go_roundg q1
       case measure => exact Nat.lt_succ_self _
       case rel => exact ⟨j + 1, _, (by first | rfl | go_num), ⟨HI⟩, Hn'⟩
     ·
      have j1 := fl_lt hj
      have j2 := fl_dlt hj
      obtain rfl := starL_end (by rw [hol]; exact hj) Hn
      clear hol hnl
      go_wp2
      go_meet
      case rel => exact ⟨bo, co, rfl, HI⟩
   ·have bl := ne_one kl
    rw [if_neg kl] at H
    obtain rfl := Option.some.inj H
    go_wp2
    go_loopg [17] 0 (fun kq s wr => s = .int .i64 (at_ : Int) ∧ Aside0 (Inv w wr ok g bm Aw cw lw n bo co ((List.replicate n false).set at_ true)))
    case atStart => exact ⟨rfl, ⟨HI⟩⟩
    case round =>
     clear HI
     clear c0 c1 c2 c3 d0 d1
     obtain ⟨rfl, HI⟩ := hrel
     replace HI := HI.out
     have c0 := HI.cell hpl hpb h0; have c1 := HI.cell hpl hpb h1; have c2 := HI.cell hpl hpb h2; have c3 := HI.cell hpl hpb h3; have d0 := HI.cell hgl hgb hg0; have d1 := HI.cell hgl hgb hg1
     have j2 := tr_dlt hat3
     go_wp2
     go_meet
     case rel => exact ⟨bo, co, rfl, HI⟩
theorem end_calls (k : Nat) : EndS k := by
 induction k with
 | zero => exact fun t at_ r p g bm Aw cw lw ok W h => absurd h (by simp [endF])
 | succ k ih =>
  intro t at_ r p g bm Aw cw lw ok W h hR hN hfr
  by_cases h4 : t.f0 = 4
  ·exact end_nest ih t at_ r p g bm Aw cw lw ok W h4 h hR hN hfr
  by_cases h6 : t.f0 = 6
  ·exact end_or ih t at_ r p g bm Aw cw lw ok W h6 h hR hN hfr
  by_cases h5 : t.f0 = 5
  ·exact end_cat ih t at_ r p g bm Aw cw lw ok W h5 h hR hN hfr
  by_cases h7 : t.f0 = 7
  ·exact end_star ih t at_ r p g bm Aw cw lw ok W h7 h hR hN hfr
  exact end_flat ih t at_ r p g bm Aw cw lw ok W ⟨h4, h6, h5, h7⟩ h hR hN hfr
abbrev hasW (w : World) (t : S28) (A3 : Option Addr) (c3 : Nat) (A1 : Option Addr) (c1 n : Nat) : World :=
 ((w.alloc (.cells #[.int .i64 t.f0, .int .i64 t.f1, .int .i64 t.f2, .slice A3 t.f3.length c3] 28)).alloc (.map #[] 0)).alloc (.cells #[.slice A1 n c1, .map (some (w.heap.size + 1))] 94)
theorem has_heap (w : World) (t : S28) (A3 : Option Addr) (c3 : Nat) (A1 : Option Addr) (c1 n : Nat) : (hasW w t A3 c3 A1 c1 n).heap[w.heap.size]? = some (.cells #[.int .i64 t.f0, .int .i64 t.f1, .int .i64 t.f2, .slice A3 t.f3.length c3] 28 (0, 0)) ∧
  (hasW w t A3 c3 A1 c1 n).heap[w.heap.size + 1]? = some (.map #[] 0) ∧ (hasW w t A3 c3 A1 c1 n).heap[w.heap.size + 1 + 1]? = some (.cells #[.slice A1 n c1, .map (some (w.heap.size + 1))] 94 (0, 0)) ∧ (hasW w t A3 c3 A1 c1 n).heap.size = w.heap.size + 3 := by
 have s1 : ∀ (W : World) (o : Obj), (W.alloc o).heap.size = W.heap.size + 1 := fun W o => Array.size_push _
 refine ⟨blk_alloc (blk_alloc (blk_new w _) _) _, ?_, ?_, by rw [s1, s1, s1]⟩
 ·have h := heap_alloc_new (w.alloc (.cells #[.int .i64 t.f0, .int .i64 t.f1, .int .i64 t.f2, .slice A3 t.f3.length c3] 28)) (.map #[] 0)
  rw [s1] at h
  exact blk_alloc h _
 ·have h := heap_alloc_new ((w.alloc (.cells #[.int .i64 t.f0, .int .i64 t.f1, .int .i64 t.f2, .slice A3 t.f3.length c3] 28)).alloc (.map #[] 0)) (.cells #[.slice A1 n c1, .map (some (w.heap.size + 1))] 94)
  rw [s1, s1] at h
  exact h
theorem has_ready (t : S28) (A3 : Option Addr) (c3 : Nat) (A1 : Option Addr) (c1 : Nat) (lw : List Int) (w : World) (hr3 : Kd.C k28 w A3 t.f3.length t.f3) (hc3 : t.f3.length ≤ c3) (hr1 : Kd.C (Kd.int .i64) w A1 lw.length lw) (hc1 : lw.length ≤ c1) :
  RInv (hasW w t A3 c3 A1 c1 lw.length) (fun k => k ≠ w.heap.size + 1) (w.heap.size + 1 + 1) (w.heap.size + 1) A1 c1 lw ∧ Node (hasW w t A3 c3 A1 c1 lw.length) (fun k => k ≠ w.heap.size + 1) ⟨w.heap.size, 0, none⟩ t := by
 obtain ⟨h0, h1, h2, h3⟩ := has_heap w t A3 c3 A1 c1 lw.length
 refine ⟨⟨h2, by omega, fun h => h rfl, hc1, ?_, #[], 0, h1, fun e he => by simp at he⟩, by show w.heap.size ≠ w.heap.size + 1; omega, rfl, ⟨_, _, h0⟩, [.int .i64 t.f0, .int .i64 t.f1, .int .i64 t.f2, .slice A3 t.f3.length c3], rfl, ?_, ?_⟩
 ·exact Kd.F_mono (Kd.F_alloc (Kd.F_alloc (Kd.F_alloc (Kd.C_F (Kd.heap_int .i64) hr1) _) _) _) (fun k hk => by omega)
 ·intro i u hu
  rw [add_at, Nat.zero_add]
  rw [blk_cell h0 i]
  simpa using hu
 ·exact k28_mkF _ _ t hc3 (Kd.F_mono (Kd.F_alloc (Kd.F_alloc (Kd.F_alloc (Kd.C_F k28_heap hr3) _) _) _) (fun k hk => by omega))
theorem has_below {t : S28} {A3 : Option Addr} {c3 : Nat} {A1 : Option Addr} {c1 n : Nat} {w W' : World} (hk : Kept (hasW w t A3 c3 A1 c1 n) W' (fun j => j = w.heap.size + 1)) (hs : Same (hasW w t A3 c3 A1 c1 n) W') : Below w.heap.size w W' := by
 obtain ⟨_, _, _, h3⟩ := has_heap w t A3 c3 A1 c1 n
 refine ⟨hs.1, hs.2.1, hs.2.2, by have := hk.1; omega, fun k hlt => (hk.2 k (by omega) (by omega)).trans ?_⟩
 have hb : Below w.heap.size w (hasW w t A3 c3 A1 c1 n) := below_alloc (below_alloc (below_alloc (Below.refl _ _) _) _) _
 exact hb.block k hlt
set_option maxHeartbeats 8000000 in
set_option maxRecDepth 100000 in
theorem has_calls (k : Nat) (t : S28) (A3 : Option Addr) (c3 : Nat) (A1 : Option Addr) (c1 : Nat) (lw : List Int) (r : Bool) (w : World) (hr3 : Kd.C k28 w A3 t.f3.length t.f3) (hc3 : t.f3.length ≤ c3) (hr1 : Kd.C (Kd.int .i64) w A1 lw.length lw) (hc1 : lw.length ≤ c1) (h : hasF k t lw = some r) :
  Calls Try.prog 27 #[.agg #[.int .i64 t.f0, .int .i64 t.f1, .int .i64 t.f2, .slice A3 t.f3.length c3], .slice A1 lw.length c1] w fun e w' => e = .returned (.bool r) ∧ Below w.heap.size w w' := by
 obtain ⟨m, hm, h⟩ := bind_some h
 by_cases hl : lw.length < m.length
 ·rw [if_pos hl] at h
  obtain rfl := Option.some.inj h
  have hj1 := tr_lt hl
  have hj0 := tr_ge lw.length
  have HM := Aside0.mk hm
  have HR3 := Aside0.mk hr3
  have HR1 := Aside0.mk hr1
  clear hm h hr3 hr1
  have hmm := @run_makeMap Try.prog
  go_enter Try.func27, Try.ntmps27
  go_upto_region 2 with (fail)
  go_wp2_with (fail)
  obtain ⟨HI, HN⟩ := has_ready t A3 c3 A1 c1 lw w HR3.out hc3 HR1.out hc1
  refine (end_calls k t 0 m _ _ _ A1 c1 lw _ _ HM.out HI HN (fun j hj => by have := (has_heap w t A3 c3 A1 c1 lw.length).2.2.2; omega)).mono ?_
  rintro e W' ⟨A, c, rfl, h1, h2, h3, h4, h5⟩
  have hB := Aside0.mk (has_below h4 h5)
  clear h4 h5 h3 HI HN
  obtain ⟨ad, ea, hx⟩ := Kd.at_bool (Kd.F_now h2) (lw.length : Int) (Int.natCast_nonneg _) (Int.ofNat_lt.2 hl)
  rw [Int.toNat_natCast] at hx
  subst ea
  dsimp only
  go_wp2
  go_ret
  exact ⟨rfl, hB.out⟩
 ·rw [if_neg hl] at h
  cases h
end Go.Proofs.Ytodbnnfiadcbaaa.P
namespace Go.Proofs.Ytodbnnfiadcbaaa.P
open Go.RowKit Go.Proofs.YtodbnnfiadcbaaaW.PrintWords Go.Proofs.YtodbnnfiadcbaaaW.PrintLast Go.Proofs.YtodbnnfiadcbaaaW.PrintMore
attribute [local go_sem] max2_int min2_int max_two min_two max_three min_three max_four min_four   -- for this text's walks alone
set_option linter.unusedVariables false
set_option linter.unusedSimpArgs false

/-! ### expr_Has: function 27 -/
-- IMPORTS: Derived.Test.YtodbnnfiadcbaaaExprEnd4
def expr_Has.f (k : Nat) (a0_0 : Int) (a0_1 : Int) (a0_2 : Int) (l0_3 : List (S28)) (l1 : List Int) : Option (Bool) := hasF k ⟨a0_0, a0_1, a0_2, l0_3⟩ l1
theorem expr_Has.mono : ∀ a0 a1 a2 a3 a4 k, LeO (expr_Has.f k a0 a1 a2 a3 a4) (expr_Has.f (k + 1) a0 a1 a2 a3 a4) := fun _ _ _ _ _ k => hasF_le k _ _
theorem expr_Has.calls (k : Nat) (a0_0 : Int) (a0_1 : Int) (a0_2 : Int) (A0_3 : Option Addr) (c0_3 : Nat) (l0_3 : List (S28)) (A1 : Option Addr) (c1 : Nat) (l1 : List Int) (r : Bool) (w : World) (hr0_3 : Kd.C k28 w A0_3 l0_3.length l0_3) (hc0_3 : l0_3.length ≤ c0_3) (hr1 : Kd.C (Kd.int .i64) w A1 l1.length l1) (hc1 : l1.length ≤ c1) (h : expr_Has.f k a0_0 a0_1 a0_2 l0_3 l1 = some r) :
  Calls Try.prog 27 #[.agg #[.int .i64 a0_0, .int .i64 a0_1, .int .i64 a0_2, .slice A0_3 l0_3.length c0_3], .slice A1 l1.length c1] w fun e w' => e = .returned (.bool r) ∧ Below w.heap.size w w' :=
 has_calls k ⟨a0_0, a0_1, a0_2, l0_3⟩ A0_3 c0_3 A1 c1 l1 r w hr0_3 hc0_3 hr1 hc1 h

end Go.Proofs.Ytodbnnfiadcbaaa.P
namespace Go.Proofs.Ytodbnnfiadcbaaa.P
open Go.RowKit Go.Proofs.YtodbnnfiadcbaaaW.PrintWords Go.Proofs.YtodbnnfiadcbaaaW.PrintLast Go.Proofs.YtodbnnfiadcbaaaW.PrintMore Go.Proofs.YtodbnnfiadcbaaaH
attribute [local go_sem] max2_int min2_int max_two min_two max_three min_three max_four min_four   -- for this text's walks alone
set_option linter.unusedVariables false
set_option linter.unusedSimpArgs false

theorem R_lit_g {α : Type} {P : Program} {ops : Array Oper} {rest : List Oper} {o : Oper} {a : Act} {Q : Exit → Act → World → Prop} (d : Kd α) {w0 W : World} (base e : Nat) (hgd : Region.wanted o (yielded ops a.tmps) = true) {N : Tmp} (hd : o.dst = some N) {xs : List α} {inner : List Value} {ok okp : Nat → Prop}
  (hrun : (execOp a.eval o).run P W = .ok (.value (.slice (some ⟨W.heap.size, 0, none⟩) xs.length xs.length)) (W.alloc (.cells inner.toArray e)))
  (hrep : Reps (d.M W base okp) d.sz xs inner) (hok : ∀ k, okp k → ok k) (hfresh : ok W.heap.size) (HB : Below base w0 W) (hbase : base ≤ W.heap.size) (hm : xs.length ≤ 9223372036854775807)
  (h : ∀ v1 w1, d.R e w1 base ok v1 xs → Below base w0 w1 → W.grownBy w1 none → (∃ b, v1.ownBlock = some b ∧ W.heap.size ≤ b) → wpList P ops Q rest (a.put o.dst v1) w1) : wpList P ops Q (o :: rest) a W :=
 wpList_step fun _ hK => Kd.R_lit_step d base e hgd hd hrun hrep hok hfresh HB hbase hm fun v1 w1 h1 h2 h3 h4 => hK _ _ (h v1 w1 h1 h2 h3 h4)
/-! ### canopylaw5_known: function 13 -/
def canopylaw5_known.f (k : Nat)  : Option (Bool) := (canopylaw1_Syms.f 0 ([] : List Int)).bind fun t708 => ((expr_Parse.f k t708 (⟨#[60, 97, 91, 98, 42, 93, 97, 62, 124, 49]⟩ : ByteArray)).bind fun bt711 => ((expr_Text.f k t708 1 0 0 ([] : List (S28))).bind fun t720 => (if t720.toList = ([48] : List UInt8) then (if bt711.2.2.2.2.2 = 0 then (if bt711.1 = 6 then ((expr_Text.f k t708 bt711.1 bt711.2.1 bt711.2.2.1 bt711.2.2.2.1).bind fun t721 => (if t721.toList = ([60, 97, 91, 32, 98, 42, 32, 93, 97, 62, 32, 124, 32, 49] : List UInt8) then ((expr_Check.f k t708 bt711.1 bt711.2.1 bt711.2.2.1 bt711.2.2.2.1).bind fun t722 => (if t722 = 0 then ((expr_Has.f k bt711.1 bt711.2.1 bt711.2.2.1 bt711.2.2.2.1 (([0, 2, 2, 1] : List Int))).bind fun t726 => (if t726 = true then ((expr_Has.f k bt711.1 bt711.2.1 bt711.2.2.1 bt711.2.2.2.1 ([] : List Int)).bind fun t727 => (if t727 = true then ((expr_Has.f k bt711.1 bt711.2.1 bt711.2.2.1 bt711.2.2.2.1 (([2] : List Int))).bind fun t731 => (some (!t731))) else (some false))) else (some false))) else (some false))) else (some false))) else (some false)) else (some false)) else (some false))))
theorem canopylaw5_known.mono : ∀ k, LeO (canopylaw5_known.f k ) (canopylaw5_known.f (k + 1) ) := by
 intro  k
 unfold canopylaw5_known.f
 repeat' first
   | (with_reducible exact expr_Check.mono _ _ _ _ _ _)
   | (with_reducible exact expr_Has.mono _ _ _ _ _ _)
   | (with_reducible exact expr_Parse.mono _ _ _)
   | (with_reducible exact expr_Text.mono _ _ _ _ _ _)
   | (with_reducible exact LeO.refl _)
   | (with_reducible refine LeO.ite ?_ ?_)
   | (with_reducible refine LeO.bind ?_ (fun _ => ?_))
set_option maxHeartbeats 8000000 in
set_option maxRecDepth 100000 in
theorem canopylaw5_known.calls (k : Nat)  (r : Bool) (w : World) (h : canopylaw5_known.f k  = some r) (hr : r = true) :
  Calls Try.prog 13 #[] w fun e w' => e = .returned (.bool r) ∧ Below w.heap.size w w' := by
 have HB := M0 (Below.refl w.heap.size w)
 have H : ((canopylaw1_Syms.f 0 ([] : List Int)).bind fun t708 => ((expr_Parse.f k t708 (⟨#[60, 97, 91, 98, 42, 93, 97, 62, 124, 49]⟩ : ByteArray)).bind fun bt711 => ((expr_Text.f k t708 1 0 0 ([] : List (S28))).bind fun t720 => (if t720.toList = ([48] : List UInt8) then (if bt711.2.2.2.2.2 = 0 then (if bt711.1 = 6 then ((expr_Text.f k t708 bt711.1 bt711.2.1 bt711.2.2.1 bt711.2.2.2.1).bind fun t721 => (if t721.toList = ([60, 97, 91, 32, 98, 42, 32, 93, 97, 62, 32, 124, 32, 49] : List UInt8) then ((expr_Check.f k t708 bt711.1 bt711.2.1 bt711.2.2.1 bt711.2.2.2.1).bind fun t722 => (if t722 = 0 then ((expr_Has.f k bt711.1 bt711.2.1 bt711.2.2.1 bt711.2.2.2.1 (([0, 2, 2, 1] : List Int))).bind fun t726 => (if t726 = true then ((expr_Has.f k bt711.1 bt711.2.1 bt711.2.2.1 bt711.2.2.2.1 ([] : List Int)).bind fun t727 => (if t727 = true then ((expr_Has.f k bt711.1 bt711.2.1 bt711.2.2.1 bt711.2.2.2.1 (([2] : List Int))).bind fun t731 => (some (!t731))) else (some false))) else (some false))) else (some false))) else (some false))) else (some false)) else (some false)) else (some false))))) = some r := h
 clear h
 replace H := Option.bind_eq_some_iff.mp H
 obtain ⟨t708, A10, H⟩ := H
 try dsimp only at H
 have A1 := M0 A10
 clear A10
 replace H := Option.bind_eq_some_iff.mp H
 obtain ⟨⟨t711, t712, t713, t714, t717, t718⟩, A20, H⟩ := H
 try dsimp only at H
 have A2 := M0 A20
 clear A20
 replace H := Option.bind_eq_some_iff.mp H
 obtain ⟨t720, A30, H⟩ := H
 try dsimp only at H
 have A3 := M0 A30
 clear A30
 by_cases c4 : t720.toList = ([48] : List UInt8)
 ·rw [if_pos c4] at H
  have c4b0 := bT c4
  have c4b1 := nF c4
  clear c4
  by_cases c5 : t718 = 0
  ·rw [if_pos c5] at H
   have c5b0 := bT c5
   have c5b1 := nF c5
   clear c5
   by_cases c6 : t711 = 6
   ·rw [if_pos c6] at H
    have c6b0 := bT c6
    clear c6
    replace H := Option.bind_eq_some_iff.mp H
    obtain ⟨t721, A70, H⟩ := H
    try dsimp only at H
    have A7 := M0 A70
    clear A70
    by_cases c8 : t721.toList = ([60, 97, 91, 32, 98, 42, 32, 93, 97, 62, 32, 124, 32, 49] : List UInt8)
    ·rw [if_pos c8] at H
     have c8b0 := bT c8
     clear c8
     replace H := Option.bind_eq_some_iff.mp H
     obtain ⟨t722, A90, H⟩ := H
     try dsimp only at H
     have A9 := M0 A90
     clear A90
     by_cases c10 : t722 = 0
     ·rw [if_pos c10] at H
      have c10b0 := bT c10
      clear c10
      obtain ⟨y723, hy723⟩ : ∃ y_ : List Int, y_ = (([0, 2, 2, 1] : List Int)) := ⟨_, rfl⟩
      replace H : ((expr_Has.f k t711 t712 t713 t714 y723).bind fun t726 => (if t726 = true then ((expr_Has.f k t711 t712 t713 t714 ([] : List Int)).bind fun t727 => (if t727 = true then ((expr_Has.f k t711 t712 t713 t714 (([2] : List Int))).bind fun t731 => (some (!t731))) else (some false))) else (some false))) = some r := by (rw [hy723]; with_reducible exact H)
      have Ny723 := M0 hy723
      clear hy723
      replace H := Option.bind_eq_some_iff.mp H
      obtain ⟨t726, A110, H⟩ := H
      try dsimp only at H
      have A11 := M0 A110
      clear A110
      by_cases c12 : t726 = true
      ·subst c12
       rw [if_pos rfl] at H
       replace H := Option.bind_eq_some_iff.mp H
       obtain ⟨t727, A130, H⟩ := H
       try dsimp only at H
       have A13 := M0 A130
       clear A130
       by_cases c14 : t727 = true
       ·subst c14
        rw [if_pos rfl] at H
        obtain ⟨y728, hy728⟩ : ∃ y_ : List Int, y_ = (([2] : List Int)) := ⟨_, rfl⟩
        replace H : ((expr_Has.f k t711 t712 t713 t714 y728).bind fun t731 => (some (!t731))) = some r := by (rw [hy728]; with_reducible exact H)
        have Ny728 := M0 hy728
        clear hy728
        replace H := Option.bind_eq_some_iff.mp H
        obtain ⟨t731, A150, H⟩ := H
        try dsimp only at H
        have A15 := M0 A150
        clear A150
        obtain rfl := Option.some.inj H
        go_enter Try.func13, Try.ntmps13
        go_wp2_with (first | ((with_reducible refine gate_callee (f := 14) rfl ?_); refine goesL_ (some 5) rfl rfl Try.func14 (by kernel_rfl) rfl #[.int .i64 0, .slice none 0 0] rfl (by (simp only [List.map_toArray, List.map_cons, List.map_nil]); rfl) ?_; (refine (canopylaw1_Syms.calls 0 _ _ ([] : List Int) t708 _ ?side1 ?side2 A1.out).mono ?_); (case side1 => exact Kd.C_nil _ _); (case side2 => exact Nat.le_refl _); rintro e w16 ⟨v709, rfl, ho0, hb⟩; refine ⟨_, rfl, ?_⟩; have HO710 := M0 (Kd.R_lower ho0 (below_size HB.out)); replace HB := M0 (below_step HB.out hb); clear hb ho0; obtain ⟨Ao17, co17, eo17⟩ := Kd.R_slice HO710.out; subst eo17) | ((with_reducible refine gate_callee (f := 19) rfl ?_); refine goesL_ (some 8) rfl rfl Try.func19 (by kernel_rfl) rfl #[.slice Ao17 t708.length co17, .string (⟨#[60, 97, 91, 98, 42, 93, 97, 62, 124, 49]⟩ : ByteArray)] rfl (by (simp only [List.map_toArray, List.map_cons, List.map_nil]); rfl) ?_; (with_reducible refine (expr_Parse.calls k _ _ t708 (⟨#[60, 97, 91, 98, 42, 93, 97, 62, 124, 49]⟩ : ByteArray) t711 t712 t713 t714 t717 t718 _ ?side1 ?side2 A2.out).mono ?_); (case side1 => repeat (exact (Kd.R_reads' HO710.out).2.2)); (case side2 => exact (Kd.R_reads' HO710.out).2.1); rintro e w18 ⟨v715, rfl, ho0, hb⟩; refine ⟨_, rfl, ?_⟩; have HO716 := M0 (Kd.V_lower (Kd.V_mono (ok' := fun k_ => some k_ ≠ (.slice Ao17 t708.length co17 : Value).ownBlock) ho0 (fun k_ hk_ => (Kd.fresh' (Kd.R_lt HO710.out) k_ hk_))) (below_size HB.out)); replace HO710 := M0 (Kd.R_below HO710.out hb); replace HB := M0 (below_step HB.out hb); clear hb ho0) | ((with_reducible refine gate_dst (N := 2) rfl ?_); refine box_event ?hg (N := 2) ?hd (cs := #[.int .i64 0, .int .i64 0, .int .i64 0, .slice none 0 0]) (t := 28) ?hr ?_; (case hd => rfl); (case hg => rfl); (case hr => (go_simp; done)); intro gb719 hg w19 hbox hb; replace HO710 := M0 (Kd.R_below HO710.out hb); replace HO716 := M0 (Kd.V_below (Kd.V_elderB HO716.out gb719 (Nat.le_of_eq hg.symm)) hb); have BK719 := M0 hbox; have GE719 := M0 ((by rw [hg]; exact (below_size HB.out) : w.heap.size ≤ gb719)); replace HB := M0 (below_step HB.out hb); clear hb hbox hg; obtain ⟨_, _, _, _, _, _, _, _⟩ := cells4 BK719.out; obtain ⟨Ao21, co21, eo21⟩ := Kd.V_slice HO716.out; subst eo21) | ((with_reducible refine gate_callee (f := 18) rfl ?_); refine goesL_ (some 14) rfl rfl Try.func18 (by kernel_rfl) rfl #[.slice Ao17 t708.length co17, .agg #[.int .i64 1, .int .i64 0, .int .i64 0, .slice none 0 0]] rfl (by (simp only [List.map_toArray, List.map_cons, List.map_nil]); rfl) ?_; (refine (expr_Text.calls k _ _ t708 1 0 0 _ _ ([] : List (S28)) t720 _ ?side1 ?side2 ?side3 ?side4 A3.out).mono ?_); (case side1 => refine (Kd.R_reads' (e := 56) (base := w.heap.size) (ok := fun k_ => True) (n := t708.length) (c := co17) ?_).2.2; exact (by exact (Kd.R_mono (Kd.R_far (p := ⟨gb719, 3, none⟩) (Kd.R_far (p := ⟨gb719, 2, none⟩) (Kd.R_far (p := ⟨gb719, 1, none⟩) (Kd.R_far (p := ⟨gb719, 0, none⟩) (Kd.R_types HO710.out BK719.out (by decide)) (fun _ hk => hk.2) (.int .i64 t711)) (fun _ hk => hk.2) (.int .i64 t712)) (fun _ hk => hk.2) (.int .i64 t713)) (fun _ hk => hk.2) (.slice Ao21 t714.length co21)) (fun _ h_ => h_.1)))); (case side2 => exact (Kd.R_reads' HO710.out).2.1); (case side3 => exact Kd.C_nil _ _); (case side4 => exact Nat.le_refl _); rintro e w22 ⟨rfl, hb⟩; refine ⟨_, rfl, ?_⟩; replace HO710 := M0 (Kd.R_below (by exact (Kd.R_mono (Kd.R_far (p := ⟨gb719, 3, none⟩) (Kd.R_far (p := ⟨gb719, 2, none⟩) (Kd.R_far (p := ⟨gb719, 1, none⟩) (Kd.R_far (p := ⟨gb719, 0, none⟩) (Kd.R_types HO710.out BK719.out (by decide)) (fun _ hk => hk.2) (.int .i64 t711)) (fun _ hk => hk.2) (.int .i64 t712)) (fun _ hk => hk.2) (.int .i64 t713)) (fun _ hk => hk.2) (.slice Ao21 t714.length co21)) (fun _ h_ => h_.1))) hb); replace HO716 := M0 (Kd.V_below (by exact (Kd.V_mono (Kd.V_far (p := ⟨gb719, 3, none⟩) (Kd.V_far (p := ⟨gb719, 2, none⟩) (Kd.V_far (p := ⟨gb719, 1, none⟩) (Kd.V_far (p := ⟨gb719, 0, none⟩) (Kd.V_mono HO716.out (fun k_ hk => (⟨hk, hk.2⟩ : _ ∧ k_ ≠ gb719))) (fun _ hk => hk.2) (.int .i64 t711)) (fun _ hk => hk.2) (.int .i64 t712)) (fun _ hk => hk.2) (.int .i64 t713)) (fun _ hk => hk.2) (.slice Ao21 t714.length co21)) (fun _ h_ => h_.1))) hb); replace BK719 := M0 (blk_below (g := gb719) (o := .cells #[.int .i64 t711, .int .i64 t712, .int .i64 t713, .slice Ao21 t714.length co21] 28 (0, 0)) (by refine blk_put (cs := #[.int .i64 t711, .int .i64 t712, .int .i64 t713, .slice none 0 0]) ?_ 3 _ rfl; refine blk_put (cs := #[.int .i64 t711, .int .i64 t712, .int .i64 0, .slice none 0 0]) ?_ 2 _ rfl; refine blk_put (cs := #[.int .i64 t711, .int .i64 0, .int .i64 0, .slice none 0 0]) ?_ 1 _ rfl; refine blk_put (cs := #[.int .i64 0, .int .i64 0, .int .i64 0, .slice none 0 0]) ?_ 0 _ rfl; exact BK719.out) hb); replace HB := M0 (below_step (by repeat ((with_reducible first | exact HB.out | refine below_set ?_ GE719.out))) hb); clear hb; obtain ⟨_, _, _, _, _, _, _, _⟩ := cells4 BK719.out) | (go_at_call 18; (with_reducible refine (expr_Text.calls k _ _ t708 t711 t712 t713 _ _ t714 t721 _ ?side1 ?side2 ?side3 ?side4 A7.out).mono ?_); (case side1 => repeat (exact (Kd.R_reads' HO710.out).2.2)); (case side2 => exact (Kd.R_reads' HO710.out).2.1); (case side3 => repeat (exact (Kd.V_reads' HO716.out).2.2)); (case side4 => exact (Kd.V_reads' HO716.out).2.1); rintro e w24 ⟨rfl, hb⟩; replace HO710 := M0 (Kd.R_below HO710.out hb); replace HO716 := M0 (Kd.V_below HO716.out hb); replace BK719 := M0 (blk_below BK719.out hb); replace HB := M0 (below_step HB.out hb); clear hb; obtain ⟨_, _, _, _, _, _, _, _⟩ := cells4 BK719.out) | (go_at_call 17; (with_reducible refine (expr_Check.calls k _ _ t708 t711 t712 t713 _ _ t714 t722 _ ?side1 ?side2 ?side3 ?side4 A9.out).mono ?_); (case side1 => repeat (exact (Kd.R_reads' HO710.out).2.2)); (case side2 => exact (Kd.R_reads' HO710.out).2.1); (case side3 => repeat (exact (Kd.V_reads' HO716.out).2.2)); (case side4 => exact (Kd.V_reads' HO716.out).2.1); rintro e w26 ⟨rfl, hb⟩; replace HO710 := M0 (Kd.R_below HO710.out hb); replace HO716 := M0 (Kd.V_below HO716.out hb); replace BK719 := M0 (blk_below BK719.out hb); replace HB := M0 (below_step HB.out hb); clear hb; obtain ⟨_, _, _, _, _, _, _, _⟩ := cells4 BK719.out) | ((with_reducible refine gate_dst (N := 39) rfl ?_); refine R_lit_g (Kd.int .i64) _ 3 ?hg (N := 39) ?hd (xs := ([0, 2, 2, 1] : List Int)) (inner := [.int .i64 0, .int .i64 2, .int .i64 2, .int .i64 1]) (ok := fun _ => True) (okp := fun _ => True) ?hr ?hp (fun _ hk => hk) trivial (Below.refl _ _) (Nat.le_refl _) (by simp) ?_; (case hd => rfl); (case hg => rfl); (case hr => (go_simp; done)); (case hp => exact (Reps.one (show Kd.M (Kd.int .i64) _ _ _ 0 [.int .i64 0] from rfl) (Reps.one (show Kd.M (Kd.int .i64) _ _ _ 2 [.int .i64 2] from rfl) (Reps.one (show Kd.M (Kd.int .i64) _ _ _ 2 [.int .i64 2] from rfl) (Reps.one (show Kd.M (Kd.int .i64) _ _ _ 1 [.int .i64 1] from rfl) (Reps.none _ _)))))); intro v724 w28 ho29 hb hg_ hnew_; clear hg_ hnew_; (rw [← Ny723.out] at ho29); replace HO710 := M0 (Kd.R_below HO710.out hb); replace HO716 := M0 (Kd.V_elder' HO716.out (Kd.R_base ho29) hb); have HO725 := M0 (Kd.R_lower ho29 (below_size HB.out)); replace BK719 := M0 (blk_below BK719.out hb); replace HB := M0 (below_step HB.out hb); clear hb ho29; obtain ⟨Ao30, co30, eo30⟩ := Kd.R_slice HO725.out; subst eo30) | (go_at_call 27; (with_reducible refine (expr_Has.calls k t711 t712 t713 _ _ t714 _ _ y723 true _ ?side1 ?side2 ?side3 ?side4 A11.out).mono ?_); (case side1 => repeat (exact (Kd.V_reads' HO716.out).2.2)); (case side2 => exact (Kd.V_reads' HO716.out).2.1); (case side3 => repeat (exact (Kd.R_reads' HO725.out).2.2)); (case side4 => exact (Kd.R_reads' HO725.out).2.1); rintro e w31 ⟨rfl, hb⟩; replace HO710 := M0 (Kd.R_below HO710.out hb); replace HO716 := M0 (Kd.V_below HO716.out hb); replace HO725 := M0 (Kd.R_below HO725.out hb); replace BK719 := M0 (blk_below BK719.out hb); replace HB := M0 (below_step HB.out hb); clear hb; obtain ⟨_, _, _, _, _, _, _, _⟩ := cells4 BK719.out) | (go_at_call 27; (with_reducible change Calls _ 27 #[_, .slice none 0 0] _ _); (refine (expr_Has.calls k t711 t712 t713 _ _ t714 _ _ ([] : List Int) true _ ?side1 ?side2 ?side3 ?side4 A13.out).mono ?_); (case side1 => repeat (exact (Kd.V_reads' HO716.out).2.2)); (case side2 => exact (Kd.V_reads' HO716.out).2.1); (case side3 => exact Kd.C_nil _ _); (case side4 => exact Nat.le_refl _); rintro e w33 ⟨rfl, hb⟩; replace HO710 := M0 (Kd.R_below HO710.out hb); replace HO716 := M0 (Kd.V_below HO716.out hb); replace HO725 := M0 (Kd.R_below HO725.out hb); replace BK719 := M0 (blk_below BK719.out hb); replace HB := M0 (below_step HB.out hb); clear hb; obtain ⟨_, _, _, _, _, _, _, _⟩ := cells4 BK719.out) | ((with_reducible refine gate_dst (N := 48) rfl ?_); refine R_lit_g (Kd.int .i64) _ 3 ?hg (N := 48) ?hd (xs := ([2] : List Int)) (inner := [.int .i64 2]) (ok := fun _ => True) (okp := fun _ => True) ?hr ?hp (fun _ hk => hk) trivial (Below.refl _ _) (Nat.le_refl _) (by simp) ?_; (case hd => rfl); (case hg => rfl); (case hr => (go_simp; done)); (case hp => exact (Reps.one (show Kd.M (Kd.int .i64) _ _ _ 2 [.int .i64 2] from rfl) (Reps.none _ _))); intro v729 w35 ho36 hb hg_ hnew_; clear hg_ hnew_; (rw [← Ny728.out] at ho36); replace HO710 := M0 (Kd.R_below HO710.out hb); replace HO716 := M0 (Kd.V_elder' HO716.out (Kd.R_base ho36) hb); have HO730 := M0 (Kd.R_lower (Kd.R_new' ho36 (Kd.R_lt HO725.out)) (below_size HB.out)); replace HO725 := M0 (Kd.R_elder' HO725.out (Kd.R_base ho36) hb); replace BK719 := M0 (blk_below BK719.out hb); replace HB := M0 (below_step HB.out hb); clear hb ho36; obtain ⟨Ao37, co37, eo37⟩ := Kd.R_slice HO730.out; subst eo37) | (go_at_call 27; (with_reducible refine (expr_Has.calls k t711 t712 t713 _ _ t714 _ _ y728 t731 _ ?side1 ?side2 ?side3 ?side4 A15.out).mono ?_); (case side1 => repeat (exact (Kd.V_reads' HO716.out).2.2)); (case side2 => exact (Kd.V_reads' HO716.out).2.1); (case side3 => repeat (exact (Kd.R_reads' HO730.out).2.2)); (case side4 => exact (Kd.R_reads' HO730.out).2.1); rintro e w38 ⟨rfl, hb⟩; clear HO710; clear HO716; clear HO725; clear HO730; clear BK719; replace HB := M0 (below_step HB.out hb); clear hb))
        go_ret
        exact ⟨by (simp [*, errW_none, errW_some] <;> rfl), by with_reducible exact HB.out⟩
       ·replace c14 := Bool.eq_false_iff.mpr c14
        subst c14
        rw [if_neg (show ¬ (false = true) by decide)] at H
        exact absurd ((Option.some.inj H).trans hr) (by decide)
      ·replace c12 := Bool.eq_false_iff.mpr c12
       subst c12
       rw [if_neg (show ¬ (false = true) by decide)] at H
       exact absurd ((Option.some.inj H).trans hr) (by decide)
     ·rw [if_neg c10] at H
      exact absurd ((Option.some.inj H).trans hr) (by decide)
    ·rw [if_neg c8] at H
     exact absurd ((Option.some.inj H).trans hr) (by decide)
   ·rw [if_neg c6] at H
    exact absurd ((Option.some.inj H).trans hr) (by decide)
  ·rw [if_neg c5] at H
   exact absurd ((Option.some.inj H).trans hr) (by decide)
 ·rw [if_neg c4] at H
  exact absurd ((Option.some.inj H).trans hr) (by decide)

end Go.Proofs.Ytodbnnfiadcbaaa.P
namespace Go.Proofs.YtodbnnfiadcbaaaL
open Go.RowKit Go.Proofs.Ytodbnnfiadcbaaa.P Go.Proofs.YtodbnnfiadcbaaaW.PrintWords Go.Proofs.YtodbnnfiadcbaaaW.PrintLast Go.Proofs.YtodbnnfiadcbaaaW.PrintMore
theorem known_true : canopylaw5_known.f 60 = some true := by kernel_rfl
theorem known_ev : Ev (fun k => canopylaw5_known.f k) true := Ev.of canopylaw5_known.mono known_true
end Go.Proofs.YtodbnnfiadcbaaaL
namespace Go.Proofs.Ytodbnnfiadcbaaa.P
open Go.RowKit Go.Proofs.YtodbnnfiadcbaaaW.PrintWords Go.Proofs.YtodbnnfiadcbaaaW.PrintLast Go.Proofs.YtodbnnfiadcbaaaW.PrintMore Go.Proofs.YtodbnnfiadcbaaaH
attribute [local go_sem] max2_int min2_int max_two min_two max_three min_three max_four min_four   -- for this text's walks alone
set_option linter.unusedVariables false
set_option linter.unusedSimpArgs false

/-! ### canopylaw5_within: function 22 -/
def canopylaw5_within.f (a0 : Int) (a1 : Int) : Option (Int) := if a1 = 0 then (none) else (if (Int.tmod a0 a1) < 0 then (some (wrap64 ((Int.tmod a0 a1) + a1))) else (some (Int.tmod a0 a1)))
set_option maxHeartbeats 8000000 in
set_option maxRecDepth 100000 in
theorem canopylaw5_within.calls (a0 : Int) (a1 : Int) (r : Int) (w : World) (h : canopylaw5_within.f a0 a1 = some r) :
  Calls Try.prog 22 #[.int .i64 a0, .int .i64 a1] w fun e w' => e = .returned (.int .i64 r) ∧ w = w' := by
 have H : (if a1 = 0 then (none) else (if (Int.tmod a0 a1) < 0 then (some (wrap64 ((Int.tmod a0 a1) + a1))) else (some (Int.tmod a0 a1)))) = some r := h
 clear h
 by_cases c3 : a1 = 0
 ·rw [if_pos c3] at H
  exact absurd H (by simp)
 ·rw [if_neg c3] at H
  have c3b0 := bF c3
  have c3b1 := nT c3
  by_cases c4 : (Int.tmod a0 a1) < 0
  ·rw [if_pos c4] at H
   have c4b0 := decide_eq_true c4
   clear c4
   obtain rfl := Option.some.inj H
   go_enter Try.func22, Try.ntmps22
   go_wp2
   go_ret
   exact ⟨by rfl, rfl⟩
  ·rw [if_neg c4] at H
   have c4b0 := decide_eq_false c4
   clear c4
   obtain rfl := Option.some.inj H
   go_enter Try.func22, Try.ntmps22
   go_wp2
   go_ret
   exact ⟨by rfl, rfl⟩

end Go.Proofs.Ytodbnnfiadcbaaa.P
namespace Go.Proofs.YtodbnnfiadcbaaaL
open Go.RowKit Go.Proofs.Ytodbnnfiadcbaaa.P Go.Proofs.YtodbnnfiadcbaaaW.PrintWords Go.Proofs.YtodbnnfiadcbaaaW.PrintLast Go.Proofs.YtodbnnfiadcbaaaW.PrintMore
theorem within_eq (a n : Int) (h0 : 0 < n) (h1 : n ≤ 1000000) : canopylaw5_within.f a n = some (a % n) := by
 unfold canopylaw5_within.f
 rw [if_neg (by omega)]
 have e : Int.tmod a n = if a % n = 0 then 0 else if 0 ≤ a then a % n else a % n - n := by
  rw [Int.tmod_eq_emod]
  have : n.natAbs = n := by omega
  by_cases hz : a % n = 0
  ·have : n ∣ a := Int.dvd_of_emod_eq_zero hz
   simp [hz, this]
  ·have : ¬ n ∣ a := fun h => hz (Int.emod_eq_zero_of_dvd h)
   by_cases ha : 0 ≤ a
   ·simp [hz, ha]
   ·simp only [hz, ha, this, or_self, if_false]
    omega
 have a0 := Int.emod_nonneg a (show n ≠ 0 by omega)
 have a1 := Int.emod_lt_of_pos a h0
 rw [e]
 split
 ·rename_i h; rw [if_neg (by omega), h]
 ·split
  ·rw [if_neg (by omega)]
  ·rw [if_pos (by omega)]
   congr 1
   unfold wrap64
   omega
end Go.Proofs.YtodbnnfiadcbaaaL
namespace Go.Proofs.Ytodbnnfiadcbaaa.P
open Go.RowKit Go.Proofs.YtodbnnfiadcbaaaW.PrintWords Go.Proofs.YtodbnnfiadcbaaaW.PrintLast Go.Proofs.YtodbnnfiadcbaaaW.PrintMore
attribute [local go_sem] max2_int min2_int max_two min_two max_three min_three max_four min_four   -- for this text's walks alone
set_option linter.unusedVariables false
set_option linter.unusedSimpArgs false

/-- A state of type 59 at block g of W; what its slices lead to came in by w0. -/
def IsS59 (w0 W : World) (g : Nat) (f0 : List (S56)) (f1 : List Int) (f2 : Int) : Prop := ∃ A0 c0, ∃ A1 c1, W.heap[g]? = some (.cells #[.slice A0 f0.length c0, .slice A1 f1.length c1, .int .i64 f2] 59 (0, 0)) ∧ w0.heap.size ≤ g ∧ (Kd.C k56 w0 A0 f0.length f0) ∧ f0.length ≤ c0 ∧ (Kd.C (Kd.int .i64) w0 A1 f1.length f1) ∧ f1.length ≤ c1
theorem IsS59.grown {w0 W : World} {g : Nat} {f0 : List (S56)} {f1 : List Int} {f2 : Int} {W1 : World} {row : Option Nat} (h : IsS59 w0 W g f0 f1 f2) (hw : W.grownBy W1 row) (hne : some g ≠ row) : IsS59 w0 W1 g f0 f1 f2 := by
 obtain ⟨A0, c0, A1, c1, hb, hg, hr0, hd0, hr1, hd1⟩ := h
 exact ⟨A0, c0, A1, c1, blk_grown hb hw hne, hg, hr0, hd0, hr1, hd1⟩
theorem IsS59.own_neN {w0 W : World} {g : Nat} {f0 : List (S56)} {f1 : List Int} {f2 : Int} {α : Type} {d : Kd α} {e : Nat} {base : Nat} {ok : Nat → Prop} {v : Value} {xs : List α} (h : IsS59 w0 W g f0 f1 f2) (ho : Kd.N d e W base ok v xs) (ht : e ≠ 59) : some g ≠ v.ownBlock := by
 obtain ⟨A0, c0, A1, c1, hb, hg, hr0, hd0, hr1, hd1⟩ := h
 exact Kd.N_ne ho hb ht
theorem IsS59.fresh {w0 W : World} {g : Nat} {f0 : List (S56)} {f1 : List Int} {f2 : Int} (h : IsS59 w0 W g f0 f1 f2) : ∀ k, W.heap.size ≤ k → k ≠ g := by
 obtain ⟨A0, c0, A1, c1, hb, hg, hr0, hd0, hr1, hd1⟩ := h
 exact Kd.freshB hb
theorem IsS59.kept {w0 W : World} {g : Nat} {f0 : List (S56)} {f1 : List Int} {f2 : Int} {W1 : World} {S : Nat → Prop} (h : IsS59 w0 W g f0 f1 f2) (hk : Kept W W1 S) (hne : ¬ S g) : IsS59 w0 W1 g f0 f1 f2 := by
 obtain ⟨A0, c0, A1, c1, hb, hg, hr0, hd0, hr1, hd1⟩ := h
 exact ⟨A0, c0, A1, c1, blk_kept hb hk hne, hg, hr0, hd0, hr1, hd1⟩
theorem IsS59.below {w0 W : World} {g : Nat} {f0 : List (S56)} {f1 : List Int} {f2 : Int} {W1 : World} (h : IsS59 w0 W g f0 f1 f2) (hw : Below W.heap.size W W1) : IsS59 w0 W1 g f0 f1 f2 := h.grown (grown_of_below hw none) (by simp)
theorem IsS59.alloc {w0 W : World} {g : Nat} {f0 : List (S56)} {f1 : List Int} {f2 : Int} (h : IsS59 w0 W g f0 f1 f2) (o : Obj) : IsS59 w0 (W.alloc o) g f0 f1 f2 := h.below (below_alloc (Below.refl _ _) o)
theorem IsS59.drewN {w0 W : World} {g : Nat} {f0 : List (S56)} {f1 : List Int} {f2 : Int} (h : IsS59 w0 W g f0 f1 f2) (m : Nat) : IsS59 w0 (W.drewN m) g f0 f1 f2 := h
theorem IsS59.drew {w0 W : World} {g : Nat} {f0 : List (S56)} {f1 : List Int} {f2 : Int} (h : IsS59 w0 W g f0 f1 f2) : IsS59 w0 W.drew g f0 f1 f2 := h
theorem IsS59.at_ {w0 W : World} {g : Nat} {f0 : List (S56)} {f1 : List Int} {f2 : Int} {w' : World} {m : Nat} (hq : W.drewN m = w') (h : IsS59 w0 W g f0 f1 f2) : IsS59 w0 w' g f0 f1 f2 := by subst hq; exact IsS59.drewN h m
theorem IsS59.apart {w0 W : World} {g : Nat} {f0 : List (S56)} {f1 : List Int} {f2 : Int} {α : Type} {d : Kd α} {e : Nat} {base : Nat} {ok : Nat → Prop} {v : Value} {xs : List α} (h : IsS59 w0 W g f0 f1 f2) (ho : d.R e W base ok v xs) (ht : ∀ q, q ∈ e :: d.E → q ≠ 59) : d.R e W base (fun k => ok k ∧ k ≠ g) v xs := by
 obtain ⟨A0, c0, A1, c1, hb, hg, hr0, hd0, hr1, hd1⟩ := h
 exact Kd.R_types ho hb ht
theorem IsS59.own_ne {w0 W : World} {g : Nat} {f0 : List (S56)} {f1 : List Int} {f2 : Int} {α : Type} {d : Kd α} {e : Nat} {base : Nat} {ok : Nat → Prop} {v : Value} {xs : List α} (h : IsS59 w0 W g f0 f1 f2) (ho : d.R e W base ok v xs) (ht : e ≠ 59) : some g ≠ v.ownBlock := by
 obtain ⟨A0, c0, A1, c1, hb, hg, hr0, hd0, hr1, hd1⟩ := h
 exact Kd.R_ne ho hb ht
theorem IsS59.apartQ {w0 W : World} {g : Nat} {f0 : List (S56)} {f1 : List Int} {f2 : Int} {α : Type} {d : Kd α} {e : Nat} {base : Nat} {ok : Nat → Prop} {v : Value} {xs : List α} (h : IsS59 w0 W g f0 f1 f2) (ho : d.Q e W base ok v xs) (ht : ∀ q, q ∈ e :: d.E → q ≠ 59) : d.Q e W base (fun k => ok k ∧ k ≠ g) v xs := by
 obtain ⟨A0, c0, A1, c1, hb, hg, hr0, hd0, hr1, hd1⟩ := h
 exact Kd.Q_types ho hb ht
theorem IsS59.own_neQ {w0 W : World} {g : Nat} {f0 : List (S56)} {f1 : List Int} {f2 : Int} {α : Type} {d : Kd α} {e : Nat} {base : Nat} {ok : Nat → Prop} {v : Value} {xs : List α} (h : IsS59 w0 W g f0 f1 f2) (ho : d.Q e W base ok v xs) (ht : e ≠ 59) : some g ≠ v.ownBlock := by
 obtain ⟨A0, c0, A1, c1, hb, hg, hr0, hd0, hr1, hd1⟩ := h
 exact Kd.Q_ne ho hb ht
theorem IsS59.apartS {w0 W : World} {g : Nat} {f0 : List (S56)} {f1 : List Int} {f2 : Int} {α : Type} {d : Kd α} {e : Nat} {base : Nat} {ok : Nat → Prop} {v : Value} {xs : List α} (h : IsS59 w0 W g f0 f1 f2) (ho : d.S e W base ok v xs) (ht : ∀ q, q ∈ e :: d.E → q ≠ 59) : d.S e W base (fun k => ok k ∧ k ≠ g) v xs := by
 obtain ⟨A0, c0, A1, c1, hb, hg, hr0, hd0, hr1, hd1⟩ := h
 exact Kd.S_types ho hb ht
theorem IsS59.own_neS {w0 W : World} {g : Nat} {f0 : List (S56)} {f1 : List Int} {f2 : Int} {α : Type} {d : Kd α} {e : Nat} {base : Nat} {ok : Nat → Prop} {v : Value} {xs : List α} (h : IsS59 w0 W g f0 f1 f2) (ho : d.S e W base ok v xs) (ht : e ≠ 59) : some g ≠ v.ownBlock := by
 obtain ⟨A0, c0, A1, c1, hb, hg, hr0, hd0, hr1, hd1⟩ := h
 exact Kd.S_ne ho hb ht
theorem IsS59.lt {w0 W : World} {g : Nat} {f0 : List (S56)} {f1 : List Int} {f2 : Int} (h : IsS59 w0 W g f0 f1 f2) : g < W.heap.size := by
 obtain ⟨A0, c0, A1, c1, hb, hg, hr0, hd0, hr1, hd1⟩ := h
 exact blk_lt hb
theorem IsS59.ge {w0 W : World} {g : Nat} {f0 : List (S56)} {f1 : List Int} {f2 : Int} (h : IsS59 w0 W g f0 f1 f2) : w0.heap.size ≤ g := by
 obtain ⟨A0, c0, A1, c1, hb, hg, hr0, hd0, hr1, hd1⟩ := h
 exact hg
theorem IsS59.ne_blk {w0 W : World} {g : Nat} {f0 : List (S56)} {f1 : List Int} {f2 : Int} {a : Nat} {cs : Array Value} {t : TypeId} {fr : Nat × Nat} (h : IsS59 w0 W g f0 f1 f2) (hb2 : W.heap[a]? = some (.cells cs t fr)) (ht : t ≠ 59) : g ≠ a := by
 obtain ⟨A0, c0, A1, c1, hb, hg, hr0, hd0, hr1, hd1⟩ := h
 rintro rfl
 rw [hb] at hb2
 injection hb2 with hb2
 injection hb2 with _ ht2
 exact ht ht2.symm
theorem IsS59.far {w0 W : World} {g : Nat} {f0 : List (S56)} {f1 : List Int} {f2 : Int} {p : Addr} (h : IsS59 w0 W g f0 f1 f2) (hne : g ≠ p.block) (u : Value) : IsS59 w0 (W.setCell p u) g f0 f1 f2 := by
 obtain ⟨A0, c0, A1, c1, hb, hg, hr0, hd0, hr1, hd1⟩ := h
 exact ⟨A0, c0, A1, c1, blk_far hb hne u, hg, hr0, hd0, hr1, hd1⟩
theorem IsS59.far_ {w0 W : World} {g : Nat} {f0 : List (S56)} {f1 : List Int} {f2 : Int} {g2 o2 : Nat} {u : Value} (h : IsS59 w0 W g f0 f1 f2) (hne : g ≠ g2) : IsS59 w0 (W.setCell ⟨g2, o2, none⟩ u) g f0 f1 f2 := IsS59.far (p := ⟨g2, o2, none⟩) h hne u
theorem cellS59_0 {W : World} {g : Nat} {A0 : Option Addr} {c0 : Nat} {A1 : Option Addr} {c1 : Nat} {f0 : List (S56)} {f1 : List Int} {f2 : Int} (h : W.heap[g]? = some (.cells #[.slice A0 f0.length c0, .slice A1 f1.length c1, .int .i64 f2] 59 (0, 0))) : W.cell? ⟨g, 0, none⟩ = some (.slice A0 f0.length c0) := (blk_cell h 0).trans rfl
theorem cellS59_1 {W : World} {g : Nat} {A0 : Option Addr} {c0 : Nat} {A1 : Option Addr} {c1 : Nat} {f0 : List (S56)} {f1 : List Int} {f2 : Int} (h : W.heap[g]? = some (.cells #[.slice A0 f0.length c0, .slice A1 f1.length c1, .int .i64 f2] 59 (0, 0))) : W.cell? ⟨g, 1, none⟩ = some (.slice A1 f1.length c1) := (blk_cell h 1).trans rfl
theorem cellS59_2 {W : World} {g : Nat} {A0 : Option Addr} {c0 : Nat} {A1 : Option Addr} {c1 : Nat} {f0 : List (S56)} {f1 : List Int} {f2 : Int} (h : W.heap[g]? = some (.cells #[.slice A0 f0.length c0, .slice A1 f1.length c1, .int .i64 f2] 59 (0, 0))) : W.cell? ⟨g, 2, none⟩ = some (.int .i64 f2) := (blk_cell h 2).trans rfl
theorem IsS59.set_2 {w0 W : World} {g : Nat} {f0 : List (S56)} {f1 : List Int} {f2 : Int} (h : IsS59 w0 W g f0 f1 f2) (x : Int) : IsS59 w0 (W.setCell ⟨g, 2, none⟩ (.int .i64 x)) g f0 f1 x := by
 obtain ⟨A0, c0, A1, c1, hb, hg, hr0, hd0, hr1, hd1⟩ := h
 exact ⟨A0, c0, A1, c1, by simpa using blk_set hb 2 (.int .i64 x), hg, hr0, hd0, hr1, hd1⟩
theorem IsS59.new (w0 W : World) (A0 : Option Addr) (c0 : Nat) (A1 : Option Addr) (c1 : Nat) (f0 : List (S56)) (f1 : List Int) (f2 : Int) (hB : Below w0.heap.size w0 W) (hr0 : Kd.C k56 w0 A0 f0.length f0) (hd0 : f0.length ≤ c0) (hr1 : Kd.C (Kd.int .i64) w0 A1 f1.length f1) (hd1 : f1.length ≤ c1) : IsS59 w0 (W.alloc (.cells #[.slice A0 f0.length c0, .slice A1 f1.length c1, .int .i64 f2] 59)) W.heap.size f0 f1 f2 := ⟨A0, c0, A1, c1, by simpa using heap_alloc_new W _, hB.size, hr0, hd0, hr1, hd1⟩

/-! ### canopylaw5_maker_next: function 51 -/
def canopylaw5_maker_next.f (s0_0 : List (S56)) (s0_1 : List Int) (s0_2 : Int) (a1 : Int) : Option (Int × Int) := if s0_2 ≥ (s0_1.length : Int) then (some (0, s0_2)) else (if 0 ≤ (wrap64 ((wrap64 (s0_2 + 1)) - 1)) then (if (wrap64 ((wrap64 (s0_2 + 1)) - 1)) < (s0_1.length : Int) then ((canopylaw5_within.f (rd s0_1 (wrap64 ((wrap64 (s0_2 + 1)) - 1))) a1).bind fun t733 => (some (t733, wrap64 (s0_2 + 1)))) else (none)) else (none))
set_option maxHeartbeats 8000000 in
set_option maxRecDepth 100000 in
theorem canopylaw5_maker_next.calls (g : Nat) (s0_0 : List (S56)) (s0_1 : List Int) (s0_2 : Int) (a1 : Int) (r1 : Int) (r2 : Int) (w0 w : World) (hI : IsS59 w0 w g s0_0 s0_1 s0_2) (hB : Below w0.heap.size w0 w) (h : canopylaw5_maker_next.f s0_0 s0_1 s0_2 a1 = some (r1, r2)) :
  Calls Try.prog 51 #[.pointer (some ⟨g, 0, none⟩), .int .i64 a1] w fun e w' => e = .returned (.int .i64 r1) ∧ IsS59 w0 w' g s0_0 s0_1 r2 ∧ Below w0.heap.size w0 w' ∧ KeepBut w w' g none := by
 have HI0 := Aside0.mk hI
 have HK := Aside0.mk (KeepBut.refl w g none)
 have HL := Aside0.mk hB.size
 clear hI
 have HW0 := Aside0.mk hB.size
 have HB := Aside0.mk hB
 clear hB
 have H : (if s0_2 ≥ (s0_1.length : Int) then (some (0, s0_2)) else (if 0 ≤ (wrap64 ((wrap64 (s0_2 + 1)) - 1)) then (if (wrap64 ((wrap64 (s0_2 + 1)) - 1)) < (s0_1.length : Int) then ((canopylaw5_within.f (rd s0_1 (wrap64 ((wrap64 (s0_2 + 1)) - 1))) a1).bind fun t733 => (some (t733, wrap64 (s0_2 + 1)))) else (none)) else (none))) = some (r1, r2) := h
 clear h
 by_cases c3 : s0_2 ≥ (s0_1.length : Int)
 ·rw [if_pos c3] at H
  have c3b0 : decide ((s0_1.length : Int) ≤ s0_2) = true := decide_eq_true c3
  clear c3
  simp only [Option.some.injEq, Prod.mk.injEq] at H
  obtain ⟨rfl, rfl⟩ := H
  obtain ⟨ASz4_0, cSz4_0, ASz4_1, cSz4_1, HGz4, hgz4, HSz4_0, HDz4_0, HSz4_1, HDz4_1⟩ := HI0.out
  have hcz4_0 := cellS59_0 HGz4
  have hcz4_1 := cellS59_1 HGz4
  have hcz4_2 := cellS59_2 HGz4
  have hfz4_2 := blk_frozen HGz4 2
  clear HGz4 hgz4
  go_enter Try.func51, Try.ntmps51
  go_wp2
  repeat (go_quiet (fail); try go_wp2)
  go_ret
  exact ⟨by first | rfl | (simp [errW_none, errW_some] <;> rfl) | (simp [*, errW_none, errW_some] <;> rfl), by repeat (first | (with_reducible first | exact HI0.out | apply IsS59.alloc | apply IsS59.drewN | apply IsS59.drew | apply IsS59.set_2) | exact HI0.out), by repeat (first | (with_reducible first | exact HB.out | apply below_alloc | apply pw_below_drewN | apply below_drew1 | refine below_set ?_ (IsS59.ge HI0.out)) | exact HB.out), by repeat (first | (with_reducible first | exact HK.out | apply KeepBut.set_ | apply keep_drewN | apply keep_drew | apply keep_alloc) | exact HK.out)⟩
 ·rw [if_neg c3] at H
  have c3b0 : decide ((s0_1.length : Int) ≤ s0_2) = false := decide_eq_false c3
  clear c3
  obtain ⟨ji5, hji5⟩ : ∃ j_ : Int, (wrap64 ((wrap64 (s0_2 + 1)) - 1)) = j_ := ⟨_, rfl⟩
  replace H : (if 0 ≤ (ji5) then (if (ji5) < (s0_1.length : Int) then ((canopylaw5_within.f (rd s0_1 (ji5)) a1).bind fun t733 => (some (t733, wrap64 (s0_2 + 1)))) else (none)) else (none)) = some (r1, r2) := by first | (rw [hji5] at H; exact H) | (simp only [hji5] at H ⊢; exact H)
  have hji5w : (IntKind.i64.wrap ((wrap64 (s0_2 + 1)) - 1)) = ji5 := (i64_w _).trans hji5
  by_cases c6 : 0 ≤ (ji5)
  ·rw [if_pos c6] at H
   have c6b0 : decide (0 ≤ (ji5)) = true := decide_eq_true c6
   clear c6
   by_cases c7 : (ji5) < (s0_1.length : Int)
   ·rw [if_pos c7] at H
    have c7b0 : decide ((ji5) < (s0_1.length : Int)) = true := decide_eq_true c7
    clear c7
    replace H := Option.bind_eq_some_iff.mp H
    obtain ⟨t733, A80, H⟩ := H
    replace H : (some (t733, wrap64 (s0_2 + 1))) = some (r1, r2) := H
    have A8 := Aside0.mk A80
    clear A80
    simp only [Option.some.injEq, Prod.mk.injEq] at H
    obtain ⟨rfl, rfl⟩ := H
    obtain ⟨ASz9_0, cSz9_0, ASz9_1, cSz9_1, HGz9, hgz9, HSz9_0, HDz9_0, HSz9_1, HDz9_1⟩ := HI0.out
    have hcz9_0 := cellS59_0 HGz9
    have hcz9_1 := cellS59_1 HGz9
    have hcz9_2 := cellS59_2 HGz9
    have hfz9_2 := blk_frozen HGz9 2
    clear HGz9 hgz9
    have p732 : 0 ≤ ((ji5) : Int) := of_decide_eq_true (by first | (with_reducible assumption) | assumption)
    have q732 : (ji5) < (s0_1.length : Int) := of_decide_eq_true (by first | (with_reducible assumption) | assumption)
    obtain ⟨ad732, e732, hx732_0⟩ := Kd.at_int HSz9_1 (ji5) p732 q732
    cases e732
    have hn732_0 : ad732.block ≠ g := Nat.ne_of_lt (Nat.lt_of_lt_of_le (by have := World.block_lt_of_cell? _ _ hx732_0; first | rwa [add_block] at this | exact this) (IsS59.ge HI0.out))
    replace hx732_0 := pw_cell_below HB.out hx732_0
    replace hx732_0 := (cell_far (p := ⟨g, 2, none⟩) (by first | (rw [add_block]; exact hn732_0) | (show (Addr.add _ _).block ≠ _; rw [add_block]; exact hn732_0) | exact hn732_0) (.int .i64 (wrap64 (s0_2 + 1)))).trans hx732_0
    (try have hy732_0 := fun (n_ : Nat) => (show (((w.drewN n_).setCell ⟨g, 2, none⟩ (.int .i64 (wrap64 (s0_2 + 1))))).cell? _ = some _ from hx732_0))
    clear hn732_0
    replace p732 := eq_true p732
    replace q732 := eq_true q732
    go_enter Try.func51, Try.ntmps51
    go_wp2_with (first | (go_at_call 22; (with_reducible refine (canopylaw5_within.calls (rd s0_1 (ji5)) a1 t733 _ A8.out).mono ?_); rintro e w' ⟨rfl, rfl⟩; (try first | exact ⟨rfl, _, rfl⟩ | exact ⟨rfl, _, World.drewN_drewN _ _ _⟩ | exact ⟨rfl, _, Eq.trans (World.drewN_drewN _ _ _) (congrArg (World.drewN _) (Nat.add_assoc _ _ _))⟩)))
    repeat (go_quiet (first | (go_at_call 22; (with_reducible refine (canopylaw5_within.calls (rd s0_1 (ji5)) a1 t733 _ A8.out).mono ?_); rintro e w' ⟨rfl, rfl⟩; (try first | exact ⟨rfl, _, rfl⟩ | exact ⟨rfl, _, World.drewN_drewN _ _ _⟩ | exact ⟨rfl, _, Eq.trans (World.drewN_drewN _ _ _) (congrArg (World.drewN _) (Nat.add_assoc _ _ _))⟩))); try go_wp2_with (first | (go_at_call 22; (with_reducible refine (canopylaw5_within.calls (rd s0_1 (ji5)) a1 t733 _ A8.out).mono ?_); rintro e w' ⟨rfl, rfl⟩; (try first | exact ⟨rfl, _, rfl⟩ | exact ⟨rfl, _, World.drewN_drewN _ _ _⟩ | exact ⟨rfl, _, Eq.trans (World.drewN_drewN _ _ _) (congrArg (World.drewN _) (Nat.add_assoc _ _ _))⟩))))
    go_ret
    exact ⟨by first | rfl | (simp [errW_none, errW_some] <;> rfl) | (simp only [← hji5]; first | rfl | (simp [errW_none, errW_some] <;> rfl)) | (simp [*, errW_none, errW_some] <;> rfl), by repeat (first | (with_reducible first | exact HI0.out | apply IsS59.alloc | apply IsS59.drewN | apply IsS59.drew | apply IsS59.set_2) | exact HI0.out), by repeat (first | (with_reducible first | exact HB.out | apply below_alloc | apply pw_below_drewN | apply below_drew1 | refine below_set ?_ (IsS59.ge HI0.out)) | exact HB.out), by repeat (first | (with_reducible first | exact HK.out | apply KeepBut.set_ | apply keep_drewN | apply keep_drew | apply keep_alloc) | exact HK.out)⟩
   ·rw [if_neg c7] at H
    exact absurd H (by simp)
  ·rw [if_neg c6] at H
   exact absurd H (by simp)

end Go.Proofs.Ytodbnnfiadcbaaa.P
namespace Go.Proofs.Ytodbnnfiadcbaaa.P
open Go.RowKit Go.Proofs.YtodbnnfiadcbaaaW.PrintWords Go.Proofs.YtodbnnfiadcbaaaW.PrintLast Go.Proofs.YtodbnnfiadcbaaaW.PrintMore Go.Proofs.YtodbnnfiadcbaaaH
attribute [local go_sem] max2_int min2_int max_two min_two max_three min_three max_four min_four   -- for this text's walks alone
set_option linter.unusedVariables false
set_option linter.unusedSimpArgs false

/-! ### canopylaw5_maker_pick: function 52 -/
def canopylaw5_maker_pick.l0 : Nat → Int → Int → Int → List (S56) → List Int → Int → Option (Int × Int)
 | 0, _, _, _, _, _, _ => none
 | k + 1, x1, x5, x6, x1000, x1001, x1002 => if x6 < (x1000.length : Int) then (if (x1000.length : Int) = 0 then (none) else (if 0 ≤ (Int.tmod (wrap64 (x5 + x6)) (x1000.length : Int)) then (if (Int.tmod (wrap64 (x5 + x6)) (x1000.length : Int)) < (x1000.length : Int) then (if ((rd_T56 x1000 (Int.tmod (wrap64 (x5 + x6)) (x1000.length : Int))).f1) = x1 then (some (Int.tmod (wrap64 (x5 + x6)) (x1000.length : Int), x1002)) else (canopylaw5_maker_pick.l0 k x1 x5 (wrap64 (x6 + 1)) x1000 x1001 x1002)) else (none)) else (none))) else (some ((-1), x1002))
def canopylaw5_maker_pick.f (k : Nat) (s0_0 : List (S56)) (s0_1 : List Int) (s0_2 : Int) (a1 : Int) : Option (Int × Int) := (canopylaw5_maker_next.f s0_0 s0_1 s0_2 (s0_0.length : Int)).bind fun bt734 => (canopylaw5_maker_pick.l0 k a1 bt734.1 0 s0_0 s0_1 bt734.2)
theorem canopylaw5_maker_pick.mono_l : ∀ k, (∀ y0 y1 y2 y3 y4 y5, LeO (canopylaw5_maker_pick.l0 k y0 y1 y2 y3 y4 y5) (canopylaw5_maker_pick.l0 (k + 1) y0 y1 y2 y3 y4 y5))
 | 0 => fun _ _ _ _ _ _ r h => by simp [canopylaw5_maker_pick.l0] at h
 | k + 1 => by
  have ih0 := canopylaw5_maker_pick.mono_l k
  ·intro y0 y1 y2 y3 y4 y5
   unfold canopylaw5_maker_pick.l0
   repeat' first
   | (with_reducible exact ih0 _ _ _ _ _ _)
   | (with_reducible exact LeO.refl _)
   | (with_reducible refine LeO.ite ?_ ?_)
theorem canopylaw5_maker_pick.mono : ∀ a0 a1 a2 a3 k, LeO (canopylaw5_maker_pick.f k a0 a1 a2 a3) (canopylaw5_maker_pick.f (k + 1) a0 a1 a2 a3) := by
 intro a0 a1 a2 a3 k
 have ih0 := canopylaw5_maker_pick.mono_l k
 unfold canopylaw5_maker_pick.f
 repeat' first
   | (with_reducible exact ih0 _ _ _ _ _ _)
   | (with_reducible exact LeO.refl _)
   | (with_reducible refine LeO.bind ?_ (fun _ => ?_))
set_option maxHeartbeats 8000000 in
set_option maxRecDepth 100000 in
theorem canopylaw5_maker_pick.calls (k : Nat) (g : Nat) (s0_0 : List (S56)) (s0_1 : List Int) (s0_2 : Int) (a1 : Int) (r1 : Int) (r2 : Int) (w0 w : World) (hI : IsS59 w0 w g s0_0 s0_1 s0_2) (hB : Below w0.heap.size w0 w) (h : canopylaw5_maker_pick.f k s0_0 s0_1 s0_2 a1 = some (r1, r2)) :
  Calls Try.prog 52 #[.pointer (some ⟨g, 0, none⟩), .int .i64 a1] w fun e w' => e = .returned (.int .i64 r1) ∧ IsS59 w0 w' g s0_0 s0_1 r2 ∧ Below w0.heap.size w0 w' ∧ KeepBut w w' g none := by
 have HI0 := M0 hI
 have HK := M0 (KeepBut.refl w g none)
 clear hI
 have HB := M0 hB
 clear hB
 have H : ((canopylaw5_maker_next.f s0_0 s0_1 s0_2 (s0_0.length : Int)).bind fun bt734 => (canopylaw5_maker_pick.l0 k a1 bt734.1 0 s0_0 s0_1 bt734.2)) = some (r1, r2) := h
 clear h
 replace H := Option.bind_eq_some_iff.mp H
 obtain ⟨⟨t734, t735⟩, A30, H⟩ := H
 try dsimp only at H
 have A3 := M0 A30
 clear A30
 have H' := M0 H
 clear H
 obtain ⟨ASz4_0, cSz4_0, ASz4_1, cSz4_1, HGz4, hgz4, HSz4_0, HDz4_0, HSz4_1, HDz4_1⟩ := HI0.out
 obtain ⟨hcz4_0, hcz4_1, hcz4_2, -, -, hfz4_2⟩ := cells3 HGz4
 clear HGz4 hgz4
 go_enter Try.func52, Try.ntmps52
 go_wp2_with (((with_reducible refine gate_callee (f := 51) rfl ?_); refine goesL_ (some 14) rfl rfl Try.func51 (by kernel_rfl) rfl #[.pointer (some ⟨g, 0, none⟩), .int .i64 (s0_0.length : Int)] rfl (by (simp only [List.map_toArray, List.map_cons, List.map_nil]); rfl) ?_; (with_reducible refine (canopylaw5_maker_next.calls g s0_0 s0_1 s0_2 (s0_0.length : Int) t734 t735 w0 _ HI0.out HB.out A3.out).mono ?_); rintro e w5 ⟨rfl, hi, hb, hk⟩; refine ⟨_, rfl, ?_⟩; replace HK := M0 (KeepBut.trans HK.out hk (.inl rfl)); replace HB := M0 hb; replace HI0 := M0 hi; clear hb hk hi))
 go_loopg [6] k (fun kq v6 w' => ∃ (x6_1 : Int), v6 = .int .i64 x6_1 ∧ Aside0 (canopylaw5_maker_pick.l0 kq a1 t734 x6_1 s0_0 s0_1 t735 = some (r1, r2)) ∧ Aside0 (kq ≤ k) ∧ Aside0 (IsS59 w0 w' g s0_0 s0_1 t735) ∧ Aside0 (KeepBut w w' g none) ∧ Aside0 (Below w0.heap.size w0 w'))
 case atStart => exact ⟨(0), (by rfl), H', ⟨Nat.le_refl _⟩, ⟨by with_reducible exact HI0.out⟩, ⟨by with_reducible exact HK.out⟩, ⟨by with_reducible exact HB.out⟩⟩
 case round =>
  clear H'
  clear hcz4_0 hcz4_1 hcz4_2 hfz4_2
  obtain ⟨x6_1, rfl, HA, HK1, HI0, HK, HB⟩ := hrel
  cases gk with
  | zero => exact absurd HA.out (by simp [canopylaw5_maker_pick.l0])
  | succ k1 =>
   have H := HA.out
   clear HA
   simp only [canopylaw5_maker_pick.l0] at H
   by_cases c6 : x6_1 < (s0_0.length : Int)
   ·rw [if_pos c6] at H
    have c6b0 := decide_eq_true c6
    clear c6
    by_cases c7 : (s0_0.length : Int) = 0
    ·rw [if_pos c7] at H
     exact absurd H (by simp)
    ·rw [if_neg c7] at H
     have c7b2 : ¬ (s0_0 = []) := fun h_ => c7 (by rw [h_]; rfl)
     obtain ⟨ji8, hji8⟩ : ∃ j_ : Int, (Int.tmod (wrap64 (t734 + x6_1)) (s0_0.length : Int)) = j_ := ⟨_, rfl⟩
     replace H : (if 0 ≤ (ji8) then (if (ji8) < (s0_0.length : Int) then (if ((rd_T56 s0_0 (ji8)).f1) = a1 then (some (ji8, t735)) else (canopylaw5_maker_pick.l0 k1 a1 t734 (wrap64 (x6_1 + 1)) s0_0 s0_1 t735)) else (none)) else (none)) = some (r1, r2) := by (rw [hji8] at H; exact H)
     by_cases c9 : 0 ≤ (ji8)
     ·rw [if_pos c9] at H
      have c9b0 := decide_eq_true c9
      clear c9
      by_cases c10 : (ji8) < (s0_0.length : Int)
      ·rw [if_pos c10] at H
       have c10b0 := decide_eq_true c10
       clear c10
       by_cases c11 : ((rd_T56 s0_0 (ji8)).f1) = a1
       ·rw [if_pos c11] at H
        have c11b0 := bT c11
        clear c11
        simp only [Option.some.injEq, Prod.mk.injEq] at H
        obtain ⟨rfl, rfl⟩ := H
        obtain ⟨ASz12_0, cSz12_0, ASz12_1, cSz12_1, HGz12, hgz12, HSz12_0, HDz12_0, HSz12_1, HDz12_1⟩ := HI0.out
        obtain ⟨hcz12_0, hcz12_1, hcz12_2, -, -, hfz12_2⟩ := cells3 HGz12
        clear HGz12 hgz12
        have p736 : 0 ≤ ((ji8) : Int) := of_decide_eq_true (by (with_reducible assumption))
        have q736 : (ji8) < (s0_0.length : Int) := of_decide_eq_true (by (with_reducible assumption))
        obtain ⟨ad736, e736, hx736_0, hx736_1⟩ := at_T56 HSz12_0 (ji8) p736 q736
        cases e736
        clear hx736_0
        replace hx736_1 := pw_cell_below HB.out hx736_1
        replace p736 := eq_true p736
        replace q736 := eq_true q736
        go_wp2
        go_ret
        exact ⟨by rfl, by with_reducible exact HI0.out, by with_reducible exact HB.out, by with_reducible exact HK.out⟩
       ·rw [if_neg c11] at H
        have c11b0 := bF c11
        have H' := M0 H
        clear H
        obtain ⟨ASz13_0, cSz13_0, ASz13_1, cSz13_1, HGz13, hgz13, HSz13_0, HDz13_0, HSz13_1, HDz13_1⟩ := HI0.out
        obtain ⟨hcz13_0, hcz13_1, hcz13_2, -, -, hfz13_2⟩ := cells3 HGz13
        clear HGz13 hgz13
        have p736 : 0 ≤ ((ji8) : Int) := of_decide_eq_true (by (with_reducible assumption))
        have q736 : (ji8) < (s0_0.length : Int) := of_decide_eq_true (by (with_reducible assumption))
        obtain ⟨ad736, e736, hx736_0, hx736_1⟩ := at_T56 HSz13_0 (ji8) p736 q736
        cases e736
        clear hx736_0
        replace hx736_1 := pw_cell_below HB.out hx736_1
        replace p736 := eq_true p736
        replace q736 := eq_true q736
        go_wp2
        go_roundg k1
        case measure => have := HK1.out; omega
        case rel => exact ⟨(wrap64 (x6_1 + 1)), (by rfl), (by exact H'), ⟨by have := HK1.out; omega⟩, ⟨by with_reducible exact HI0.out⟩, ⟨by with_reducible exact HK.out⟩, ⟨by with_reducible exact HB.out⟩⟩
      ·rw [if_neg c10] at H
       exact absurd H (by simp)
     ·rw [if_neg c9] at H
      exact absurd H (by simp)
   ·rw [if_neg c6] at H
    have c6b0 := decide_eq_false c6
    clear c6
    simp only [Option.some.injEq, Prod.mk.injEq] at H
    obtain ⟨rfl, rfl⟩ := H
    obtain ⟨ASz14_0, cSz14_0, ASz14_1, cSz14_1, HGz14, hgz14, HSz14_0, HDz14_0, HSz14_1, HDz14_1⟩ := HI0.out
    obtain ⟨hcz14_0, hcz14_1, hcz14_2, -, -, hfz14_2⟩ := cells3 HGz14
    clear HGz14 hgz14
    go_wp2
    go_ret
    exact ⟨by rfl, by with_reducible exact HI0.out, by with_reducible exact HB.out, by with_reducible exact HK.out⟩

/-! ### canopylaw5_maker_make: function 30 -/
mutual
def canopylaw5_maker_make.j0 : Nat → Int → Bool → Int → List (S56) → List Int → Int → Option (Int × Int × Int × (List (S28)) × Int)
 | 0, _, _, _, _, _, _ => none
 | k + 1, x1, x2, x7, x1000, x1001, x1002 => if x7 = 0 then (some (2, 0, 0, ([] : List (S28)), x1002)) else (if x7 = 1 then (canopylaw5_maker_make.j1 k x1 x2 x7 x7 (x7 == 1) x1000 x1001 x1002) else (if x7 = 2 then (canopylaw5_maker_make.j1 k x1 x2 x7 x7 (x7 == 2) x1000 x1001 x1002) else (canopylaw5_maker_make.j1 k x1 x2 x7 x7 (x7 == 3) x1000 x1001 x1002)))
def canopylaw5_maker_make.j1 : Nat → Int → Bool → Int → Int → Bool → List (S56) → List Int → Int → Option (Int × Int × Int × (List (S28)) × Int)
 | 0, _, _, _, _, _, _, _, _ => none
 | k + 1, x1, x2, x7, x18, x22, x1000, x1001, x1002 => if x22 = true then ((canopylaw5_maker_next.f x1000 x1001 x1002 (x1000.length : Int)).bind fun bt740 => (if x2 = true then ((canopylaw5_maker_pick.f k x1000 x1001 bt740.2 3).bind fun bt742 => (if bt742.1 ≥ 0 then (some (3, bt742.1, 0, ([] : List (S28)), bt742.2)) else (some (1, 0, 0, ([] : List (S28)), bt742.2)))) else (if bt740.1 ≥ 0 then (some (3, bt740.1, 0, ([] : List (S28)), bt740.2)) else (some (1, 0, 0, ([] : List (S28)), bt740.2))))) else (if x18 = 5 then (canopylaw5_maker_make.j2 k x1 x2 x7 x18 (x18 == 5) x1000 x1001 x1002) else (if x18 = 6 then (canopylaw5_maker_make.j2 k x1 x2 x7 x18 (x18 == 6) x1000 x1001 x1002) else (canopylaw5_maker_make.j2 k x1 x2 x7 x18 (x18 == 7) x1000 x1001 x1002)))
def canopylaw5_maker_make.j2 : Nat → Int → Bool → Int → Int → Bool → List (S56) → List Int → Int → Option (Int × Int × Int × (List (S28)) × Int)
 | 0, _, _, _, _, _, _, _, _ => none
 | k + 1, x1, x2, x7, x18, x40, x1000, x1001, x1002 => if x40 = true then ((canopylaw5_maker_pick.f k x1000 x1001 x1002 1).bind fun bt744 => ((canopylaw5_maker_pick.f k x1000 x1001 bt744.2 2).bind fun bt746 => (if bt744.1 ≥ 0 then (if bt746.1 ≥ 0 then ((canopylaw5_maker_make.f k x1000 x1001 bt746.2 (wrap64 (x1 - 1)) true).bind fun bt748 => (some (4, bt744.1, bt746.1, (([(⟨bt748.1, bt748.2.1, bt748.2.2.1, bt748.2.2.2.1⟩ : S28)] : List (S28))), bt748.2.2.2.2))) else (some (1, 0, 0, ([] : List (S28)), bt746.2))) else (some (1, 0, 0, ([] : List (S28)), bt746.2))))) else (if x18 = 8 then (canopylaw5_maker_make.j3 k x1 x2 x7 x18 (x18 == 8) x1000 x1001 x1002) else (if x18 = 9 then (canopylaw5_maker_make.j3 k x1 x2 x7 x18 (x18 == 9) x1000 x1001 x1002) else (if x18 = 10 then (canopylaw5_maker_make.j3 k x1 x2 x7 x18 (x18 == 10) x1000 x1001 x1002) else (canopylaw5_maker_make.j3 k x1 x2 x7 x18 (x18 == 11) x1000 x1001 x1002))))
def canopylaw5_maker_make.j3 : Nat → Int → Bool → Int → Int → Bool → List (S56) → List Int → Int → Option (Int × Int × Int × (List (S28)) × Int)
 | 0, _, _, _, _, _, _, _, _ => none
 | k + 1, x1, x2, x7, x18, x62, x1000, x1001, x1002 => if x62 = true then ((canopylaw5_maker_make.f k x1000 x1001 x1002 (wrap64 (x1 - 1)) x2).bind fun bt758 => ((canopylaw5_maker_make.f k x1000 x1001 bt758.2.2.2.2 (wrap64 (x1 - 1)) x2).bind fun bt765 => ((some (([(⟨bt758.1, bt758.2.1, bt758.2.2.1, bt758.2.2.2.1⟩ : S28), (⟨bt765.1, bt765.2.1, bt765.2.2.1, bt765.2.2.2.1⟩ : S28)] : List (S28)) : List (S28))).bind fun y772 => ((canopylaw5_maker_next.f x1000 x1001 bt765.2.2.2.2 3).bind fun bt775 => (if bt775.1 = 0 then ((canopylaw5_maker_make.f k x1000 x1001 bt775.2 (wrap64 (x1 - 1)) x2).bind fun bt777 => (if y772.length < 2932031007402 then (some (wrap64 (5 + (Int.tmod x7 2)), 0, 0, (y772 ++ [(⟨bt777.1, bt777.2.1, bt777.2.2.1, bt777.2.2.2.1⟩ : S28)]), bt777.2.2.2.2)) else (none))) else (some (wrap64 (5 + (Int.tmod x7 2)), 0, 0, y772, bt775.2))))))) else (if x18 = 12 then ((canopylaw5_maker_make.f k x1000 x1001 x1002 (wrap64 (x1 - 1)) x2).bind fun bt787 => (some (7, 0, 0, (([(⟨bt787.1, bt787.2.1, bt787.2.2.1, bt787.2.2.2.1⟩ : S28)] : List (S28))), bt787.2.2.2.2))) else (if x18 = 13 then ((canopylaw5_maker_make.f k x1000 x1001 x1002 (wrap64 (x1 - 1)) x2).bind fun bt797 => (some (7, 0, 0, (([(⟨bt797.1, bt797.2.1, bt797.2.2.1, bt797.2.2.2.1⟩ : S28)] : List (S28))), bt797.2.2.2.2))) else (some (1, 0, 0, ([] : List (S28)), x1002))))
def canopylaw5_maker_make.f : Nat → List (S56) → List Int → Int → Int → Bool → Option (Int × Int × Int × (List (S28)) × Int)
 | 0, _, _, _, _, _ => none
 | k + 1, s0_0, s0_1, s0_2, a1, a2 => (canopylaw5_maker_next.f s0_0 s0_1 s0_2 14).bind fun bt738 => (if a1 ≤ 0 then (canopylaw5_maker_make.j0 k a1 a2 (Int.tmod bt738.1 5) s0_0 s0_1 bt738.2) else (canopylaw5_maker_make.j0 k a1 a2 bt738.1 s0_0 s0_1 bt738.2))
end
theorem canopylaw5_maker_make.mono_l : ∀ k, (∀ y0 y1 y2 y3 y4, LeO (canopylaw5_maker_make.f k y0 y1 y2 y3 y4) (canopylaw5_maker_make.f (k + 1) y0 y1 y2 y3 y4)) ∧ (∀ y0 y1 y2 y3 y4 y5, LeO (canopylaw5_maker_make.j0 k y0 y1 y2 y3 y4 y5) (canopylaw5_maker_make.j0 (k + 1) y0 y1 y2 y3 y4 y5)) ∧ (∀ y0 y1 y2 y3 y4 y5 y6 y7, LeO (canopylaw5_maker_make.j1 k y0 y1 y2 y3 y4 y5 y6 y7) (canopylaw5_maker_make.j1 (k + 1) y0 y1 y2 y3 y4 y5 y6 y7)) ∧ (∀ y0 y1 y2 y3 y4 y5 y6 y7, LeO (canopylaw5_maker_make.j2 k y0 y1 y2 y3 y4 y5 y6 y7) (canopylaw5_maker_make.j2 (k + 1) y0 y1 y2 y3 y4 y5 y6 y7)) ∧ (∀ y0 y1 y2 y3 y4 y5 y6 y7, LeO (canopylaw5_maker_make.j3 k y0 y1 y2 y3 y4 y5 y6 y7) (canopylaw5_maker_make.j3 (k + 1) y0 y1 y2 y3 y4 y5 y6 y7))
 | 0 => ⟨fun _ _ _ _ _ r h => by simp [canopylaw5_maker_make.f] at h, fun _ _ _ _ _ _ r h => by simp [canopylaw5_maker_make.j0] at h, fun _ _ _ _ _ _ _ _ r h => by simp [canopylaw5_maker_make.j1] at h, fun _ _ _ _ _ _ _ _ r h => by simp [canopylaw5_maker_make.j2] at h, fun _ _ _ _ _ _ _ _ r h => by simp [canopylaw5_maker_make.j3] at h⟩
 | k + 1 => by
  obtain ⟨ih0, ih1, ih2, ih3, ih4⟩ := canopylaw5_maker_make.mono_l k
  refine ⟨?_, ?_, ?_, ?_, ?_⟩
  ·intro y0 y1 y2 y3 y4
   unfold canopylaw5_maker_make.f
   repeat' first
   | (with_reducible exact ih1 _ _ _ _ _ _)
   | (with_reducible exact LeO.refl _)
   | (with_reducible refine LeO.ite ?_ ?_)
   | (with_reducible refine LeO.bind ?_ (fun _ => ?_))
  ·intro y0 y1 y2 y3 y4 y5
   unfold canopylaw5_maker_make.j0
   repeat' first
   | (with_reducible exact ih2 _ _ _ _ _ _ _ _)
   | (with_reducible exact LeO.refl _)
   | (with_reducible refine LeO.ite ?_ ?_)
  ·intro y0 y1 y2 y3 y4 y5 y6 y7
   unfold canopylaw5_maker_make.j1
   repeat' first
   | (with_reducible exact ih3 _ _ _ _ _ _ _ _)
   | (with_reducible exact canopylaw5_maker_pick.mono _ _ _ _ _)
   | (with_reducible exact LeO.refl _)
   | (with_reducible refine LeO.ite ?_ ?_)
   | (with_reducible refine LeO.bind ?_ (fun _ => ?_))
  ·intro y0 y1 y2 y3 y4 y5 y6 y7
   unfold canopylaw5_maker_make.j2
   repeat' first
   | (with_reducible exact ih0 _ _ _ _ _)
   | (with_reducible exact ih4 _ _ _ _ _ _ _ _)
   | (with_reducible exact canopylaw5_maker_pick.mono _ _ _ _ _)
   | (with_reducible exact LeO.refl _)
   | (with_reducible refine LeO.ite ?_ ?_)
   | (with_reducible refine LeO.bind ?_ (fun _ => ?_))
  ·intro y0 y1 y2 y3 y4 y5 y6 y7
   unfold canopylaw5_maker_make.j3
   repeat' first
   | (with_reducible exact ih0 _ _ _ _ _)
   | (with_reducible exact LeO.refl _)
   | (with_reducible refine LeO.ite ?_ ?_)
   | (with_reducible refine LeO.bind ?_ (fun _ => ?_))
theorem canopylaw5_maker_make.mono : ∀ a0 a1 a2 a3 a4 k, LeO (canopylaw5_maker_make.f k a0 a1 a2 a3 a4) (canopylaw5_maker_make.f (k + 1) a0 a1 a2 a3 a4) := by
 intro a0 a1 a2 a3 a4 k
 obtain ⟨ih0, ih1, ih2, ih3, ih4⟩ := canopylaw5_maker_make.mono_l k
 exact ih0 a0 a1 a2 a3 a4
set_option maxHeartbeats 8000000 in
set_option maxRecDepth 100000 in
theorem canopylaw5_maker_make.calls (k : Nat) : ∀ (g : Nat) (s0_0 : List (S56)) (s0_1 : List Int) (s0_2 : Int) (a1 : Int) (a2 : Bool) (r1 : Int) (r2 : Int) (r3 : Int) (r4 : List (S28)) (r5 : Int) (w0 w : World) (hI : IsS59 w0 w g s0_0 s0_1 s0_2) (hB : Below w0.heap.size w0 w) (h : canopylaw5_maker_make.f k s0_0 s0_1 s0_2 a1 a2 = some (r1, r2, r3, r4, r5)),
  Calls Try.prog 30 #[.pointer (some ⟨g, 0, none⟩), .int .i64 a1, .bool a2] w fun e w' => ∃ v3_ : Value, e = .returned (.agg #[.int .i64 r1, .int .i64 r2, .int .i64 r3, v3_]) ∧ Kd.N k28 28 w' w.heap.size (fun k_ => (w.heap.size ≤ k_)) v3_ r4 ∧ IsS59 w0 w' g s0_0 s0_1 r5 ∧ Below w0.heap.size w0 w' ∧ KeepBut w w' g none := by
 induction k using Nat.strongRecOn with
 | _ k ih =>
 intro g s0_0 s0_1 s0_2 a1 a2 r1 r2 r3 r4 r5 w0 w hI hB h
 cases k with
 | zero => exact absurd h (by simp [canopylaw5_maker_make.f])
 | succ k =>
 simp only [canopylaw5_maker_make.f] at h
 have HI0 := M0 hI
 have HK := M0 (KeepBut.refl w g none)
 have HL := M0 hB.size
 clear hI
 have HW0 := M0 hB.size
 have HB := M0 hB
 clear hB
 have H : ((canopylaw5_maker_next.f s0_0 s0_1 s0_2 14).bind fun bt738 => (if a1 ≤ 0 then (canopylaw5_maker_make.j0 k a1 a2 (Int.tmod bt738.1 5) s0_0 s0_1 bt738.2) else (canopylaw5_maker_make.j0 k a1 a2 bt738.1 s0_0 s0_1 bt738.2))) = some (r1, r2, r3, r4, r5) := h
 clear h
 replace H := Option.bind_eq_some_iff.mp H
 obtain ⟨⟨t738, t739⟩, A40, H⟩ := H
 try dsimp only at H
 have A4 := M0 A40
 clear A40
 have HC5 := M0 H
 clear H
 go_enter Try.func30, Try.ntmps30
 go_upto_if 15 with (first | ((with_reducible refine gate_dst (N := 6) rfl ?_); refine box_event ?hg (N := 6) ?hd (cs := #[.int .i64 0, .int .i64 0, .int .i64 0, .slice none 0 0]) (t := 28) ?hr ?_; (case hd => rfl); (case hg => rfl); (case hr => (go_simp; done)); intro gb737 hg w6 hbox hb; replace HB := M0 (below_step HB.out hb); have BK737 := M0 hbox; have GW737 := M0 ((by rw [hg]; exact (keep_size HK.out) : w.heap.size ≤ gb737)); have GE737 := M0 ((Nat.le_trans HW0.out (by rw [hg]; exact (keep_size HK.out) : w.heap.size ≤ gb737) : w0.heap.size ≤ gb737)); replace HK := M0 (KeepBut.trans HK.out (KeepBut.of_below hb g none) (.inl rfl)); have NB0_737 := M0 ((by rw [hg]; exact Nat.ne_of_lt (IsS59.lt HI0.out) : g ≠ gb737)); have NB737_0 := M0 ((by rw [hg]; exact Nat.ne_of_gt (IsS59.lt HI0.out) : gb737 ≠ g)); replace HI0 := M0 (IsS59.below HI0.out hb); clear hb hbox hg) | ((with_reducible refine gate_callee (f := 51) rfl ?_); refine goesL_ (some 13) rfl rfl Try.func51 (by kernel_rfl) rfl #[.pointer (some ⟨g, 0, none⟩), .int .i64 14] rfl (by (simp only [List.map_toArray, List.map_cons, List.map_nil]); rfl) ?_; (with_reducible refine (canopylaw5_maker_next.calls g s0_0 s0_1 s0_2 14 t738 t739 w0 _ HI0.out HB.out A4.out).mono ?_); rintro e w7 ⟨rfl, hi, hb, hk⟩; refine ⟨_, rfl, ?_⟩; replace BK737 := M0 (KeepBut.blk hk BK737.out NB737_0.out (by simp)); replace HK := M0 (KeepBut.trans HK.out hk (.inl rfl)); replace HB := M0 hb; replace HI0 := M0 hi; clear hb hk hi))
 (skip)
 go_cut [7] (fun v7 wc => ∃ (kq : Nat) (x7_4 : Int), v7 = .int .i64 x7_4 ∧ Aside0 (canopylaw5_maker_make.j0 kq a1 a2 x7_4 s0_0 s0_1 t739 = some (r1, r2, r3, r4, r5)) ∧ Aside0 (kq ≤ k) ∧ Aside0 (wc.heap[gb737]? = some (.cells #[.int .i64 0, .int .i64 0, .int .i64 0, (.slice none 0 0)] 28 (0, 0))) ∧ Aside0 (IsS59 w0 wc g s0_0 s0_1 t739) ∧ Aside0 (KeepBut w wc g none) ∧ Aside0 (Below w0.heap.size w0 wc))
 case first =>
  have H := HC5.out
  clear HC5
  by_cases c8 : a1 ≤ 0
  ·rw [if_pos c8] at H
   have c8b0 := decide_eq_true c8
   clear c8
   (rw [c8b0])
   have H' := M0 H
   clear H
   go_wp2
   go_meet
   case rel => exact ⟨_, (Int.tmod t738 5), (by rfl), H', ⟨by omega⟩, ⟨by exact BK737.out⟩, ⟨by with_reducible exact HI0.out⟩, ⟨by with_reducible exact HK.out⟩, ⟨by with_reducible exact HB.out⟩⟩
  ·rw [if_neg c8] at H
   have c8b0 := decide_eq_false c8
   clear c8
   (rw [c8b0])
   have H' := M0 H
   clear H
   go_wp2
   go_meet
   case rel => exact ⟨_, (t738), (by rfl), H', ⟨by omega⟩, ⟨by exact BK737.out⟩, ⟨by with_reducible exact HI0.out⟩, ⟨by with_reducible exact HK.out⟩, ⟨by with_reducible exact HB.out⟩⟩
 case rest =>
  clear HC5
  obtain ⟨kq, x7_4, rfl, HA, HJ4, BK737, HI0, HK, HB⟩ := hcut
  cases kq with
  | zero => exact absurd HA.out (by simp [canopylaw5_maker_make.j0])
  | succ kj4 =>
   have H := HA.out
   clear HA
   simp only [canopylaw5_maker_make.j0] at H
   by_cases c9 : x7_4 = 0
   ·rw [if_pos c9] at H
    have c9b0 := bT c9
    clear c9
    simp only [Option.some.injEq, Prod.mk.injEq] at H
    obtain ⟨rfl, rfl, rfl, rfl, rfl⟩ := H
    obtain ⟨_, _, _, _, _, _, _, _⟩ := cells4 BK737.out
    go_wp2
    refine bodyPost_ret (results_cell_row rfl _ _ gb737 28 #[.int .i64 2, .int .i64 0, .int .i64 0, .slice none 0 0] (0, 0) _ rfl (by refine blk_put (cs := #[.int .i64 2, .int .i64 0, .int .i64 0, .slice none 0 0]) ?_ 3 _ rfl; refine blk_put (cs := #[.int .i64 2, .int .i64 0, .int .i64 0, .slice none 0 0]) ?_ 2 _ rfl; refine blk_put (cs := #[.int .i64 2, .int .i64 0, .int .i64 0, .slice none 0 0]) ?_ 1 _ rfl; refine blk_put (cs := #[.int .i64 0, .int .i64 0, .int .i64 0, .slice none 0 0]) ?_ 0 _ rfl; exact BK737.out) Try.underlying28 rfl (by kernel_rfl)) rfl ?_
    exact ⟨_, by rfl, by exact Kd.N_nil _ _ _ _ _, by repeat ((with_reducible first | exact HI0.out | apply IsS59.far_ (hne := NB0_737.out))), by repeat ((with_reducible first | exact HB.out | refine below_set ?_ GE737.out)), by repeat ((with_reducible first | exact HK.out | refine keep_far ?_ GW737.out _))⟩
   ·rw [if_neg c9] at H
    have c9b0 := bF c9
    have c9b1 := nT c9
    have HC12 := M0 H
    clear H
    go_upto_if 22 with (fail)
    go_cut [22] (fun v22 wc => ∃ (kq : Nat) (x22_11 : Bool), v22 = .bool x22_11 ∧ Aside0 (canopylaw5_maker_make.j1 kq a1 a2 x7_4 x7_4 x22_11 s0_0 s0_1 t739 = some (r1, r2, r3, r4, r5)) ∧ Aside0 (kq ≤ kj4) ∧ Aside0 (wc.heap[gb737]? = some (.cells #[.int .i64 0, .int .i64 0, .int .i64 0, (.slice none 0 0)] 28 (0, 0))) ∧ Aside0 (IsS59 w0 wc g s0_0 s0_1 t739) ∧ Aside0 (KeepBut w wc g none) ∧ Aside0 (Below w0.heap.size w0 wc))
    case first =>
     have H := HC12.out
     clear HC12
     by_cases c13 : x7_4 = 1
     ·rw [if_pos c13] at H
      have c13b0 := bT c13
      clear c13
      (rw [c13b0])
      have H' := M0 H
      clear H
      go_wp2
      go_meet
      case rel => exact ⟨_, ((x7_4 == 1)), (by (simp [*]; done)), H', ⟨by have := HJ4.out; omega⟩, ⟨by exact BK737.out⟩, ⟨by with_reducible exact HI0.out⟩, ⟨by with_reducible exact HK.out⟩, ⟨by with_reducible exact HB.out⟩⟩
     ·rw [if_neg c13] at H
      have c13b0 := bF c13
      have c13b1 := nT c13
      (rw [c13b0])
      by_cases c14 : x7_4 = 2
      ·rw [if_pos c14] at H
       have c14b0 := bT c14
       clear c14
       have H' := M0 H
       clear H
       go_wp2
       go_meet
       case rel => exact ⟨_, ((x7_4 == 2)), (by (simp [*]; done)), H', ⟨by have := HJ4.out; omega⟩, ⟨by exact BK737.out⟩, ⟨by with_reducible exact HI0.out⟩, ⟨by with_reducible exact HK.out⟩, ⟨by with_reducible exact HB.out⟩⟩
      ·rw [if_neg c14] at H
       have c14b0 := bF c14
       have H' := M0 H
       clear H
       go_wp2
       go_meet
       case rel => exact ⟨_, ((x7_4 == 3)), (by rfl), H', ⟨by have := HJ4.out; omega⟩, ⟨by exact BK737.out⟩, ⟨by with_reducible exact HI0.out⟩, ⟨by with_reducible exact HK.out⟩, ⟨by with_reducible exact HB.out⟩⟩
    case rest =>
     clear HC12 c9 c9b0 c9b1
     obtain ⟨kq, x22_11, rfl, HA, HJ11, BK737, HI0, HK, HB⟩ := hcut
     cases kq with
     | zero => exact absurd HA.out (by simp [canopylaw5_maker_make.j1])
     | succ kj11 =>
      have H := HA.out
      clear HA
      simp only [canopylaw5_maker_make.j1] at H
      by_cases c15 : x22_11 = true
      ·subst c15
       rw [if_pos rfl] at H
       replace H := Option.bind_eq_some_iff.mp H
       obtain ⟨⟨t740, t741⟩, A160, H⟩ := H
       try dsimp only at H
       have A16 := M0 A160
       clear A160
       by_cases c17 : a2 = true
       ·subst c17
        rw [if_pos rfl] at H
        replace H := Option.bind_eq_some_iff.mp H
        obtain ⟨⟨t742, t743⟩, A180, H⟩ := H
        try dsimp only at H
        have A18 := M0 A180
        clear A180
        by_cases c19 : t742 ≥ 0
        ·rw [if_pos c19] at H
         have c19b0 : decide (0 ≤ t742) = true := decide_eq_true c19
         clear c19
         simp only [Option.some.injEq, Prod.mk.injEq] at H
         obtain ⟨rfl, rfl, rfl, rfl, rfl⟩ := H
         obtain ⟨ASz20_0, cSz20_0, ASz20_1, cSz20_1, HGz20, hgz20, HSz20_0, HDz20_0, HSz20_1, HDz20_1⟩ := HI0.out
         obtain ⟨hcz20_0, hcz20_1, hcz20_2, -, -, hfz20_2⟩ := cells3 HGz20
         clear HGz20 hgz20
         go_wp2_with (first | ((with_reducible refine gate_callee (f := 51) rfl ?_); refine goesL_ (some 32) rfl rfl Try.func51 (by kernel_rfl) rfl #[.pointer (some ⟨g, 0, none⟩), .int .i64 (s0_0.length : Int)] rfl (by (simp only [List.map_toArray, List.map_cons, List.map_nil]); rfl) ?_; (with_reducible refine (canopylaw5_maker_next.calls g s0_0 s0_1 t739 (s0_0.length : Int) t740 t741 w0 _ HI0.out HB.out A16.out).mono ?_); rintro e w21 ⟨rfl, hi, hb, hk⟩; refine ⟨_, rfl, ?_⟩; replace BK737 := M0 (KeepBut.blk hk BK737.out NB737_0.out (by simp)); replace HK := M0 (KeepBut.trans HK.out hk (.inl rfl)); replace HB := M0 hb; replace HI0 := M0 hi; clear hb hk hi) | ((with_reducible refine gate_callee (f := 52) rfl ?_); refine goesL_ (some 35) rfl rfl Try.func52 (by kernel_rfl) rfl #[.pointer (some ⟨g, 0, none⟩), .int .i64 3] rfl (by (simp only [List.map_toArray, List.map_cons, List.map_nil]); rfl) ?_; (with_reducible refine (canopylaw5_maker_pick.calls kj11 g s0_0 s0_1 t741 3 t742 t743 w0 _ HI0.out HB.out A18.out).mono ?_); rintro e w22 ⟨rfl, hi, hb, hk⟩; refine ⟨_, rfl, ?_⟩; replace BK737 := M0 (KeepBut.blk hk BK737.out NB737_0.out (by simp)); replace HK := M0 (KeepBut.trans HK.out hk (.inl rfl)); replace HB := M0 hb; replace HI0 := M0 hi; clear hb hk hi; obtain ⟨_, _, _, _, _, _, _, _⟩ := cells4 BK737.out))
         refine bodyPost_ret (results_cell_row rfl _ _ gb737 28 #[.int .i64 3, .int .i64 t742, .int .i64 0, .slice none 0 0] (0, 0) _ rfl (by refine blk_put (cs := #[.int .i64 3, .int .i64 t742, .int .i64 0, .slice none 0 0]) ?_ 3 _ rfl; refine blk_put (cs := #[.int .i64 3, .int .i64 t742, .int .i64 0, .slice none 0 0]) ?_ 2 _ rfl; refine blk_put (cs := #[.int .i64 3, .int .i64 0, .int .i64 0, .slice none 0 0]) ?_ 1 _ rfl; refine blk_put (cs := #[.int .i64 0, .int .i64 0, .int .i64 0, .slice none 0 0]) ?_ 0 _ rfl; exact BK737.out) Try.underlying28 rfl (by kernel_rfl)) rfl ?_
         exact ⟨_, by rfl, by exact Kd.N_nil _ _ _ _ _, by repeat ((with_reducible first | exact HI0.out | apply IsS59.far_ (hne := NB0_737.out))), by repeat ((with_reducible first | exact HB.out | refine below_set ?_ GE737.out)), by repeat ((with_reducible first | exact HK.out | refine keep_far ?_ GW737.out _))⟩
        ·rw [if_neg c19] at H
         have c19b0 : decide (0 ≤ t742) = false := decide_eq_false c19
         clear c19
         simp only [Option.some.injEq, Prod.mk.injEq] at H
         obtain ⟨rfl, rfl, rfl, rfl, rfl⟩ := H
         obtain ⟨ASz25_0, cSz25_0, ASz25_1, cSz25_1, HGz25, hgz25, HSz25_0, HDz25_0, HSz25_1, HDz25_1⟩ := HI0.out
         obtain ⟨hcz25_0, hcz25_1, hcz25_2, -, -, hfz25_2⟩ := cells3 HGz25
         clear HGz25 hgz25
         go_wp2_with (first | ((with_reducible refine gate_callee (f := 51) rfl ?_); refine goesL_ (some 32) rfl rfl Try.func51 (by kernel_rfl) rfl #[.pointer (some ⟨g, 0, none⟩), .int .i64 (s0_0.length : Int)] rfl (by (simp only [List.map_toArray, List.map_cons, List.map_nil]); rfl) ?_; (with_reducible refine (canopylaw5_maker_next.calls g s0_0 s0_1 t739 (s0_0.length : Int) t740 t741 w0 _ HI0.out HB.out A16.out).mono ?_); rintro e w26 ⟨rfl, hi, hb, hk⟩; refine ⟨_, rfl, ?_⟩; replace BK737 := M0 (KeepBut.blk hk BK737.out NB737_0.out (by simp)); replace HK := M0 (KeepBut.trans HK.out hk (.inl rfl)); replace HB := M0 hb; replace HI0 := M0 hi; clear hb hk hi) | ((with_reducible refine gate_callee (f := 52) rfl ?_); refine goesL_ (some 35) rfl rfl Try.func52 (by kernel_rfl) rfl #[.pointer (some ⟨g, 0, none⟩), .int .i64 3] rfl (by (simp only [List.map_toArray, List.map_cons, List.map_nil]); rfl) ?_; (with_reducible refine (canopylaw5_maker_pick.calls kj11 g s0_0 s0_1 t741 3 t742 t743 w0 _ HI0.out HB.out A18.out).mono ?_); rintro e w27 ⟨rfl, hi, hb, hk⟩; refine ⟨_, rfl, ?_⟩; replace BK737 := M0 (KeepBut.blk hk BK737.out NB737_0.out (by simp)); replace HK := M0 (KeepBut.trans HK.out hk (.inl rfl)); replace HB := M0 hb; replace HI0 := M0 hi; clear hb hk hi; obtain ⟨_, _, _, _, _, _, _, _⟩ := cells4 BK737.out))
         refine bodyPost_ret (results_cell_row rfl _ _ gb737 28 #[.int .i64 1, .int .i64 0, .int .i64 0, .slice none 0 0] (0, 0) _ rfl (by refine blk_put (cs := #[.int .i64 1, .int .i64 0, .int .i64 0, .slice none 0 0]) ?_ 3 _ rfl; refine blk_put (cs := #[.int .i64 1, .int .i64 0, .int .i64 0, .slice none 0 0]) ?_ 2 _ rfl; refine blk_put (cs := #[.int .i64 1, .int .i64 0, .int .i64 0, .slice none 0 0]) ?_ 1 _ rfl; refine blk_put (cs := #[.int .i64 0, .int .i64 0, .int .i64 0, .slice none 0 0]) ?_ 0 _ rfl; exact BK737.out) Try.underlying28 rfl (by kernel_rfl)) rfl ?_
         exact ⟨_, by rfl, by exact Kd.N_nil _ _ _ _ _, by repeat ((with_reducible first | exact HI0.out | apply IsS59.far_ (hne := NB0_737.out))), by repeat ((with_reducible first | exact HB.out | refine below_set ?_ GE737.out)), by repeat ((with_reducible first | exact HK.out | refine keep_far ?_ GW737.out _))⟩
       ·replace c17 := Bool.eq_false_iff.mpr c17
        subst c17
        rw [if_neg (show ¬ (false = true) by decide)] at H
        by_cases c30 : t740 ≥ 0
        ·rw [if_pos c30] at H
         have c30b0 : decide (0 ≤ t740) = true := decide_eq_true c30
         clear c30
         simp only [Option.some.injEq, Prod.mk.injEq] at H
         obtain ⟨rfl, rfl, rfl, rfl, rfl⟩ := H
         obtain ⟨ASz31_0, cSz31_0, ASz31_1, cSz31_1, HGz31, hgz31, HSz31_0, HDz31_0, HSz31_1, HDz31_1⟩ := HI0.out
         obtain ⟨hcz31_0, hcz31_1, hcz31_2, -, -, hfz31_2⟩ := cells3 HGz31
         clear HGz31 hgz31
         go_wp2_with (((with_reducible refine gate_callee (f := 51) rfl ?_); refine goesL_ (some 32) rfl rfl Try.func51 (by kernel_rfl) rfl #[.pointer (some ⟨g, 0, none⟩), .int .i64 (s0_0.length : Int)] rfl (by (simp only [List.map_toArray, List.map_cons, List.map_nil]); rfl) ?_; (with_reducible refine (canopylaw5_maker_next.calls g s0_0 s0_1 t739 (s0_0.length : Int) t740 t741 w0 _ HI0.out HB.out A16.out).mono ?_); rintro e w32 ⟨rfl, hi, hb, hk⟩; refine ⟨_, rfl, ?_⟩; replace BK737 := M0 (KeepBut.blk hk BK737.out NB737_0.out (by simp)); replace HK := M0 (KeepBut.trans HK.out hk (.inl rfl)); replace HB := M0 hb; replace HI0 := M0 hi; clear hb hk hi; obtain ⟨_, _, _, _, _, _, _, _⟩ := cells4 BK737.out))
         refine bodyPost_ret (results_cell_row rfl _ _ gb737 28 #[.int .i64 3, .int .i64 t740, .int .i64 0, .slice none 0 0] (0, 0) _ rfl (by refine blk_put (cs := #[.int .i64 3, .int .i64 t740, .int .i64 0, .slice none 0 0]) ?_ 3 _ rfl; refine blk_put (cs := #[.int .i64 3, .int .i64 t740, .int .i64 0, .slice none 0 0]) ?_ 2 _ rfl; refine blk_put (cs := #[.int .i64 3, .int .i64 0, .int .i64 0, .slice none 0 0]) ?_ 1 _ rfl; refine blk_put (cs := #[.int .i64 0, .int .i64 0, .int .i64 0, .slice none 0 0]) ?_ 0 _ rfl; exact BK737.out) Try.underlying28 rfl (by kernel_rfl)) rfl ?_
         exact ⟨_, by rfl, by exact Kd.N_nil _ _ _ _ _, by repeat ((with_reducible first | exact HI0.out | apply IsS59.far_ (hne := NB0_737.out))), by repeat ((with_reducible first | exact HB.out | refine below_set ?_ GE737.out)), by repeat ((with_reducible first | exact HK.out | refine keep_far ?_ GW737.out _))⟩
        ·rw [if_neg c30] at H
         have c30b0 : decide (0 ≤ t740) = false := decide_eq_false c30
         clear c30
         simp only [Option.some.injEq, Prod.mk.injEq] at H
         obtain ⟨rfl, rfl, rfl, rfl, rfl⟩ := H
         obtain ⟨ASz35_0, cSz35_0, ASz35_1, cSz35_1, HGz35, hgz35, HSz35_0, HDz35_0, HSz35_1, HDz35_1⟩ := HI0.out
         obtain ⟨hcz35_0, hcz35_1, hcz35_2, -, -, hfz35_2⟩ := cells3 HGz35
         clear HGz35 hgz35
         go_wp2_with (((with_reducible refine gate_callee (f := 51) rfl ?_); refine goesL_ (some 32) rfl rfl Try.func51 (by kernel_rfl) rfl #[.pointer (some ⟨g, 0, none⟩), .int .i64 (s0_0.length : Int)] rfl (by (simp only [List.map_toArray, List.map_cons, List.map_nil]); rfl) ?_; (with_reducible refine (canopylaw5_maker_next.calls g s0_0 s0_1 t739 (s0_0.length : Int) t740 t741 w0 _ HI0.out HB.out A16.out).mono ?_); rintro e w36 ⟨rfl, hi, hb, hk⟩; refine ⟨_, rfl, ?_⟩; replace BK737 := M0 (KeepBut.blk hk BK737.out NB737_0.out (by simp)); replace HK := M0 (KeepBut.trans HK.out hk (.inl rfl)); replace HB := M0 hb; replace HI0 := M0 hi; clear hb hk hi; obtain ⟨_, _, _, _, _, _, _, _⟩ := cells4 BK737.out))
         refine bodyPost_ret (results_cell_row rfl _ _ gb737 28 #[.int .i64 1, .int .i64 0, .int .i64 0, .slice none 0 0] (0, 0) _ rfl (by refine blk_put (cs := #[.int .i64 1, .int .i64 0, .int .i64 0, .slice none 0 0]) ?_ 3 _ rfl; refine blk_put (cs := #[.int .i64 1, .int .i64 0, .int .i64 0, .slice none 0 0]) ?_ 2 _ rfl; refine blk_put (cs := #[.int .i64 1, .int .i64 0, .int .i64 0, .slice none 0 0]) ?_ 1 _ rfl; refine blk_put (cs := #[.int .i64 0, .int .i64 0, .int .i64 0, .slice none 0 0]) ?_ 0 _ rfl; exact BK737.out) Try.underlying28 rfl (by kernel_rfl)) rfl ?_
         exact ⟨_, by rfl, by exact Kd.N_nil _ _ _ _ _, by repeat ((with_reducible first | exact HI0.out | apply IsS59.far_ (hne := NB0_737.out))), by repeat ((with_reducible first | exact HB.out | refine below_set ?_ GE737.out)), by repeat ((with_reducible first | exact HK.out | refine keep_far ?_ GW737.out _))⟩
      ·replace c15 := Bool.eq_false_iff.mpr c15
       subst c15
       rw [if_neg (show ¬ (false = true) by decide)] at H
       have HC39 := M0 H
       clear H
       go_upto_if 40 with (fail)
       go_cut [40] (fun v40 wc => ∃ (kq : Nat) (x40_38 : Bool), v40 = .bool x40_38 ∧ Aside0 (canopylaw5_maker_make.j2 kq a1 a2 x7_4 x7_4 x40_38 s0_0 s0_1 t739 = some (r1, r2, r3, r4, r5)) ∧ Aside0 (kq ≤ kj11) ∧ Aside0 (wc.heap[gb737]? = some (.cells #[.int .i64 0, .int .i64 0, .int .i64 0, (.slice none 0 0)] 28 (0, 0))) ∧ Aside0 (IsS59 w0 wc g s0_0 s0_1 t739) ∧ Aside0 (KeepBut w wc g none) ∧ Aside0 (Below w0.heap.size w0 wc))
       case first =>
        have H := HC39.out
        clear HC39
        by_cases c40 : x7_4 = 5
        ·rw [if_pos c40] at H
         have c40b0 := bT c40
         clear c40
         (rw [c40b0])
         have H' := M0 H
         clear H
         go_wp2
         go_meet
         case rel => exact ⟨_, ((x7_4 == 5)), (by (simp [*]; done)), H', ⟨by have := HJ4.out; have := HJ11.out; omega⟩, ⟨by exact BK737.out⟩, ⟨by with_reducible exact HI0.out⟩, ⟨by with_reducible exact HK.out⟩, ⟨by with_reducible exact HB.out⟩⟩
        ·rw [if_neg c40] at H
         have c40b0 := bF c40
         have c40b1 := nT c40
         (rw [c40b0])
         by_cases c41 : x7_4 = 6
         ·rw [if_pos c41] at H
          have c41b0 := bT c41
          clear c41
          have H' := M0 H
          clear H
          go_wp2
          go_meet
          case rel => exact ⟨_, ((x7_4 == 6)), (by (simp [*]; done)), H', ⟨by have := HJ4.out; have := HJ11.out; omega⟩, ⟨by exact BK737.out⟩, ⟨by with_reducible exact HI0.out⟩, ⟨by with_reducible exact HK.out⟩, ⟨by with_reducible exact HB.out⟩⟩
         ·rw [if_neg c41] at H
          have c41b0 := bF c41
          have H' := M0 H
          clear H
          go_wp2
          go_meet
          case rel => exact ⟨_, ((x7_4 == 7)), (by rfl), H', ⟨by have := HJ4.out; have := HJ11.out; omega⟩, ⟨by exact BK737.out⟩, ⟨by with_reducible exact HI0.out⟩, ⟨by with_reducible exact HK.out⟩, ⟨by with_reducible exact HB.out⟩⟩
       case rest =>
        clear HC39
        obtain ⟨kq, x40_38, rfl, HA, HJ38, BK737, HI0, HK, HB⟩ := hcut
        cases kq with
        | zero => exact absurd HA.out (by simp [canopylaw5_maker_make.j2])
        | succ kj38 =>
         have H := HA.out
         clear HA
         simp only [canopylaw5_maker_make.j2] at H
         by_cases c42 : x40_38 = true
         ·subst c42
          rw [if_pos rfl] at H
          replace H := Option.bind_eq_some_iff.mp H
          obtain ⟨⟨t744, t745⟩, A430, H⟩ := H
          try dsimp only at H
          have A43 := M0 A430
          clear A430
          replace H := Option.bind_eq_some_iff.mp H
          obtain ⟨⟨t746, t747⟩, A440, H⟩ := H
          try dsimp only at H
          have A44 := M0 A440
          clear A440
          by_cases c45 : t744 ≥ 0
          ·rw [if_pos c45] at H
           have c45b0 : decide (0 ≤ t744) = true := decide_eq_true c45
           clear c45
           by_cases c46 : t746 ≥ 0
           ·rw [if_pos c46] at H
            have c46b0 : decide (0 ≤ t746) = true := decide_eq_true c46
            clear c46
            replace H := Option.bind_eq_some_iff.mp H
            obtain ⟨⟨t748, t749, t750, t751, t754⟩, A470, H⟩ := H
            try dsimp only at H
            have A47 := M0 A470
            clear A470
            obtain ⟨y755, hy755⟩ : ∃ y_ : List (S28), y_ = (([(⟨t748, t749, t750, t751⟩ : S28)] : List (S28))) := ⟨_, rfl⟩
            replace H : (some (4, t744, t746, y755, t754)) = some (r1, r2, r3, r4, r5) := by (rw [hy755]; with_reducible exact H)
            have Ny755 := M0 hy755
            clear hy755
            simp only [Option.some.injEq, Prod.mk.injEq] at H
            obtain ⟨rfl, rfl, rfl, rfl, rfl⟩ := H
            go_wp2_with (first | ((with_reducible refine gate_callee (f := 52) rfl ?_); refine goesL_ (some 45) rfl rfl Try.func52 (by kernel_rfl) rfl #[.pointer (some ⟨g, 0, none⟩), .int .i64 1] rfl (by (simp only [List.map_toArray, List.map_cons, List.map_nil]); rfl) ?_; (with_reducible refine (canopylaw5_maker_pick.calls kj38 g s0_0 s0_1 t739 1 t744 t745 w0 _ HI0.out HB.out A43.out).mono ?_); rintro e w48 ⟨rfl, hi, hb, hk⟩; refine ⟨_, rfl, ?_⟩; replace BK737 := M0 (KeepBut.blk hk BK737.out NB737_0.out (by simp)); replace HK := M0 (KeepBut.trans HK.out hk (.inl rfl)); replace HB := M0 hb; replace HI0 := M0 hi; clear hb hk hi) | ((with_reducible refine gate_callee (f := 52) rfl ?_); refine goesL_ (some 47) rfl rfl Try.func52 (by kernel_rfl) rfl #[.pointer (some ⟨g, 0, none⟩), .int .i64 2] rfl (by (simp only [List.map_toArray, List.map_cons, List.map_nil]); rfl) ?_; (with_reducible refine (canopylaw5_maker_pick.calls kj38 g s0_0 s0_1 t745 2 t746 t747 w0 _ HI0.out HB.out A44.out).mono ?_); rintro e w49 ⟨rfl, hi, hb, hk⟩; refine ⟨_, rfl, ?_⟩; replace BK737 := M0 (KeepBut.blk hk BK737.out NB737_0.out (by simp)); replace HK := M0 (KeepBut.trans HK.out hk (.inl rfl)); replace HB := M0 hb; replace HI0 := M0 hi; clear hb hk hi) | ((with_reducible refine gate_callee (f := 30) rfl ?_); refine goesL_ (some 59) rfl rfl Try.func30 (by kernel_rfl) rfl #[.pointer (some ⟨g, 0, none⟩), .int .i64 (wrap64 (a1 - 1)), .bool true] rfl (by (simp only [List.map_toArray, List.map_cons, List.map_nil]); rfl) ?_; (with_reducible refine (ih kj38 (by have := HJ4.out; have := HJ11.out; have := HJ38.out; omega) g s0_0 s0_1 t747 (wrap64 (a1 - 1)) true t748 t749 t750 t751 t754 w0 _ ?side1 ?side2 A47.out).mono ?_); (case side1 => exact HI0.out); (case side2 => exact HB.out); rintro e w50 ⟨v752, rfl, ho0, hi, hb, hk⟩; refine ⟨_, rfl, ?_⟩; have HO753 := M0 (Kd.N_lower (Kd.N_mono (ok' := fun k_ => (w.heap.size ≤ k_) ∧ k_ ≠ gb737 ∧ k_ ≠ g) ho0 (fun k_ hk_ => ⟨(Nat.le_trans (keep_size HK.out) hk_), (Kd.freshB BK737.out k_ hk_), (IsS59.fresh HI0.out k_ hk_)⟩)) (keep_size HK.out)); replace BK737 := M0 (KeepBut.blk hk BK737.out NB737_0.out (by simp)); replace HK := M0 (KeepBut.trans HK.out hk (.inl rfl)); replace HB := M0 hb; replace HI0 := M0 hi; clear hb hk hi ho0; obtain ⟨Ao51, co51, eo51⟩ := Kd.N_slice HO753.out; subst eo51) | ((with_reducible refine gate_dst (N := 60) rfl ?_); refine Kd.N_lit k28 _ 28 ?hg (N' := 60) ?hd (xs := ([(⟨t748, t749, t750, t751⟩ : S28)] : List (S28))) (inner := [.int .i64 t748, .int .i64 t749, .int .i64 t750, .slice Ao51 t751.length co51]) (ok := (fun k_ => (w.heap.size ≤ k_) ∧ k_ ≠ gb737 ∧ k_ ≠ g)) (okp := (fun k_ => (w.heap.size ≤ k_) ∧ k_ ≠ gb737 ∧ k_ ≠ g)) ?hr ?hp (fun _ hk => hk) ((show ∀ k_, w50.heap.size ≤ k_ → (fun k_ => (w.heap.size ≤ k_) ∧ k_ ≠ gb737 ∧ k_ ≠ g) k_ from fun k_ hk => ⟨(Nat.le_trans (keep_size HK.out) hk), Kd.freshB BK737.out k_ hk, IsS59.fresh HI0.out k_ hk⟩) _ (Nat.le_refl _)) (Below.refl _ _) (Nat.le_refl _) (by simp) ?_; (case hd => rfl); (case hg => rfl); (case hr => (go_simp; done)); (case hp => exact (Reps.c4 (show Kd.FK k28 _ _ (⟨t748, t749, t750, t751⟩ : S28) [.int .i64 t748, .int .i64 t749, .int .i64 t750, .slice Ao51 t751.length co51] from (k28_mkF _ _ (⟨t748, t749, t750, t751⟩ : S28) (Kd.N_reads' (Kd.N_mono (ok' := (fun k_ => (w.heap.size ≤ k_) ∧ k_ ≠ gb737 ∧ k_ ≠ g)) (HO753.out) (fun k_ hk => ⟨hk.1, ⟨hk.2.1, hk.2.2⟩⟩))).2.1 (Kd.N_F (Kd.N_mono (ok' := (fun k_ => (w.heap.size ≤ k_) ∧ k_ ≠ gb737 ∧ k_ ≠ g)) (HO753.out) (fun k_ hk => ⟨hk.1, ⟨hk.2.1, hk.2.2⟩⟩))))) (Reps.none _ _))); intro v756 w52 ho53 hb hg_ hnew_; clear hg_ hnew_; (rw [← Ny755.out] at ho53); have HO757 := M0 (Kd.N_lower ho53 (keep_size HK.out)); replace BK737 := M0 (blk_below BK737.out hb); replace HI0 := M0 (IsS59.below HI0.out hb); replace HK := M0 (KeepBut.trans HK.out (KeepBut.of_below hb g none) (.inl rfl)); replace HB := M0 (below_step HB.out hb); clear HO753 hb ho53; obtain ⟨Ao54, co54, eo54⟩ := Kd.N_slice HO757.out; subst eo54; obtain ⟨_, _, _, _, _, _, _, _⟩ := cells4 BK737.out))
            refine bodyPost_ret (results_cell_row rfl _ _ gb737 28 #[.int .i64 4, .int .i64 t744, .int .i64 t746, .slice Ao54 y755.length co54] (0, 0) _ rfl (by refine blk_put (cs := #[.int .i64 4, .int .i64 t744, .int .i64 t746, .slice none 0 0]) ?_ 3 _ rfl; refine blk_put (cs := #[.int .i64 4, .int .i64 t744, .int .i64 0, .slice none 0 0]) ?_ 2 _ rfl; refine blk_put (cs := #[.int .i64 4, .int .i64 0, .int .i64 0, .slice none 0 0]) ?_ 1 _ rfl; refine blk_put (cs := #[.int .i64 0, .int .i64 0, .int .i64 0, .slice none 0 0]) ?_ 0 _ rfl; exact BK737.out) Try.underlying28 rfl (by kernel_rfl)) rfl ?_
            exact ⟨_, by rfl, by exact Kd.N_mono (Kd.N_far (p := ⟨gb737, 3, none⟩) (Kd.N_far (p := ⟨gb737, 2, none⟩) (Kd.N_far (p := ⟨gb737, 1, none⟩) (Kd.N_far (p := ⟨gb737, 0, none⟩) (Kd.N_mono HO757.out (fun k_ hk => (⟨hk, hk.2.1⟩ : _ ∧ k_ ≠ gb737))) (fun _ hk => hk.2) (.int .i64 4)) (fun _ hk => hk.2) (.int .i64 t744)) (fun _ hk => hk.2) (.int .i64 t746)) (fun _ hk => hk.2) (.slice Ao54 y755.length co54)) (fun _ hk => hk.1.1), by repeat ((with_reducible first | exact HI0.out | apply IsS59.far_ (hne := NB0_737.out))), by repeat ((with_reducible first | exact HB.out | refine below_set ?_ GE737.out)), by repeat ((with_reducible first | exact HK.out | refine keep_far ?_ GW737.out _))⟩
           ·rw [if_neg c46] at H
            have c46b0 : decide (0 ≤ t746) = false := decide_eq_false c46
            clear c46
            simp only [Option.some.injEq, Prod.mk.injEq] at H
            obtain ⟨rfl, rfl, rfl, rfl, rfl⟩ := H
            go_wp2_with (first | ((with_reducible refine gate_callee (f := 52) rfl ?_); refine goesL_ (some 45) rfl rfl Try.func52 (by kernel_rfl) rfl #[.pointer (some ⟨g, 0, none⟩), .int .i64 1] rfl (by (simp only [List.map_toArray, List.map_cons, List.map_nil]); rfl) ?_; (with_reducible refine (canopylaw5_maker_pick.calls kj38 g s0_0 s0_1 t739 1 t744 t745 w0 _ HI0.out HB.out A43.out).mono ?_); rintro e w57 ⟨rfl, hi, hb, hk⟩; refine ⟨_, rfl, ?_⟩; replace BK737 := M0 (KeepBut.blk hk BK737.out NB737_0.out (by simp)); replace HK := M0 (KeepBut.trans HK.out hk (.inl rfl)); replace HB := M0 hb; replace HI0 := M0 hi; clear hb hk hi) | ((with_reducible refine gate_callee (f := 52) rfl ?_); refine goesL_ (some 47) rfl rfl Try.func52 (by kernel_rfl) rfl #[.pointer (some ⟨g, 0, none⟩), .int .i64 2] rfl (by (simp only [List.map_toArray, List.map_cons, List.map_nil]); rfl) ?_; (with_reducible refine (canopylaw5_maker_pick.calls kj38 g s0_0 s0_1 t745 2 t746 t747 w0 _ HI0.out HB.out A44.out).mono ?_); rintro e w58 ⟨rfl, hi, hb, hk⟩; refine ⟨_, rfl, ?_⟩; replace BK737 := M0 (KeepBut.blk hk BK737.out NB737_0.out (by simp)); replace HK := M0 (KeepBut.trans HK.out hk (.inl rfl)); replace HB := M0 hb; replace HI0 := M0 hi; clear hb hk hi; obtain ⟨_, _, _, _, _, _, _, _⟩ := cells4 BK737.out))
            refine bodyPost_ret (results_cell_row rfl _ _ gb737 28 #[.int .i64 1, .int .i64 0, .int .i64 0, .slice none 0 0] (0, 0) _ rfl (by refine blk_put (cs := #[.int .i64 1, .int .i64 0, .int .i64 0, .slice none 0 0]) ?_ 3 _ rfl; refine blk_put (cs := #[.int .i64 1, .int .i64 0, .int .i64 0, .slice none 0 0]) ?_ 2 _ rfl; refine blk_put (cs := #[.int .i64 1, .int .i64 0, .int .i64 0, .slice none 0 0]) ?_ 1 _ rfl; refine blk_put (cs := #[.int .i64 0, .int .i64 0, .int .i64 0, .slice none 0 0]) ?_ 0 _ rfl; exact BK737.out) Try.underlying28 rfl (by kernel_rfl)) rfl ?_
            exact ⟨_, by rfl, by exact Kd.N_nil _ _ _ _ _, by repeat ((with_reducible first | exact HI0.out | apply IsS59.far_ (hne := NB0_737.out))), by repeat ((with_reducible first | exact HB.out | refine below_set ?_ GE737.out)), by repeat ((with_reducible first | exact HK.out | refine keep_far ?_ GW737.out _))⟩
          ·rw [if_neg c45] at H
           have c45b0 : decide (0 ≤ t744) = false := decide_eq_false c45
           clear c45
           simp only [Option.some.injEq, Prod.mk.injEq] at H
           obtain ⟨rfl, rfl, rfl, rfl, rfl⟩ := H
           go_wp2_with (first | ((with_reducible refine gate_callee (f := 52) rfl ?_); refine goesL_ (some 45) rfl rfl Try.func52 (by kernel_rfl) rfl #[.pointer (some ⟨g, 0, none⟩), .int .i64 1] rfl (by (simp only [List.map_toArray, List.map_cons, List.map_nil]); rfl) ?_; (with_reducible refine (canopylaw5_maker_pick.calls kj38 g s0_0 s0_1 t739 1 t744 t745 w0 _ HI0.out HB.out A43.out).mono ?_); rintro e w61 ⟨rfl, hi, hb, hk⟩; refine ⟨_, rfl, ?_⟩; replace BK737 := M0 (KeepBut.blk hk BK737.out NB737_0.out (by simp)); replace HK := M0 (KeepBut.trans HK.out hk (.inl rfl)); replace HB := M0 hb; replace HI0 := M0 hi; clear hb hk hi) | ((with_reducible refine gate_callee (f := 52) rfl ?_); refine goesL_ (some 47) rfl rfl Try.func52 (by kernel_rfl) rfl #[.pointer (some ⟨g, 0, none⟩), .int .i64 2] rfl (by (simp only [List.map_toArray, List.map_cons, List.map_nil]); rfl) ?_; (with_reducible refine (canopylaw5_maker_pick.calls kj38 g s0_0 s0_1 t745 2 t746 t747 w0 _ HI0.out HB.out A44.out).mono ?_); rintro e w62 ⟨rfl, hi, hb, hk⟩; refine ⟨_, rfl, ?_⟩; replace BK737 := M0 (KeepBut.blk hk BK737.out NB737_0.out (by simp)); replace HK := M0 (KeepBut.trans HK.out hk (.inl rfl)); replace HB := M0 hb; replace HI0 := M0 hi; clear hb hk hi; obtain ⟨_, _, _, _, _, _, _, _⟩ := cells4 BK737.out))
           refine bodyPost_ret (results_cell_row rfl _ _ gb737 28 #[.int .i64 1, .int .i64 0, .int .i64 0, .slice none 0 0] (0, 0) _ rfl (by refine blk_put (cs := #[.int .i64 1, .int .i64 0, .int .i64 0, .slice none 0 0]) ?_ 3 _ rfl; refine blk_put (cs := #[.int .i64 1, .int .i64 0, .int .i64 0, .slice none 0 0]) ?_ 2 _ rfl; refine blk_put (cs := #[.int .i64 1, .int .i64 0, .int .i64 0, .slice none 0 0]) ?_ 1 _ rfl; refine blk_put (cs := #[.int .i64 0, .int .i64 0, .int .i64 0, .slice none 0 0]) ?_ 0 _ rfl; exact BK737.out) Try.underlying28 rfl (by kernel_rfl)) rfl ?_
           exact ⟨_, by rfl, by exact Kd.N_nil _ _ _ _ _, by repeat ((with_reducible first | exact HI0.out | apply IsS59.far_ (hne := NB0_737.out))), by repeat ((with_reducible first | exact HB.out | refine below_set ?_ GE737.out)), by repeat ((with_reducible first | exact HK.out | refine keep_far ?_ GW737.out _))⟩
         ·replace c42 := Bool.eq_false_iff.mpr c42
          subst c42
          rw [if_neg (show ¬ (false = true) by decide)] at H
          have HC65 := M0 H
          clear H
          go_upto_if 62 with (fail)
          go_cut [62] (fun v62 wc => ∃ (kq : Nat) (x62_64 : Bool), v62 = .bool x62_64 ∧ Aside0 (canopylaw5_maker_make.j3 kq a1 a2 x7_4 x7_4 x62_64 s0_0 s0_1 t739 = some (r1, r2, r3, r4, r5)) ∧ Aside0 (kq ≤ kj38) ∧ Aside0 (wc.heap[gb737]? = some (.cells #[.int .i64 0, .int .i64 0, .int .i64 0, (.slice none 0 0)] 28 (0, 0))) ∧ Aside0 (IsS59 w0 wc g s0_0 s0_1 t739) ∧ Aside0 (KeepBut w wc g none) ∧ Aside0 (Below w0.heap.size w0 wc))
          case first =>
           have H := HC65.out
           clear HC65
           by_cases c66 : x7_4 = 8
           ·rw [if_pos c66] at H
            have c66b0 := bT c66
            clear c66
            (rw [c66b0])
            have H' := M0 H
            clear H
            go_wp2
            go_meet
            case rel => exact ⟨_, ((x7_4 == 8)), (by (simp [*]; done)), H', ⟨by have := HJ4.out; have := HJ11.out; have := HJ38.out; omega⟩, ⟨by exact BK737.out⟩, ⟨by with_reducible exact HI0.out⟩, ⟨by with_reducible exact HK.out⟩, ⟨by with_reducible exact HB.out⟩⟩
           ·rw [if_neg c66] at H
            have c66b0 := bF c66
            have c66b1 := nT c66
            (rw [c66b0])
            by_cases c67 : x7_4 = 9
            ·rw [if_pos c67] at H
             have c67b0 := bT c67
             clear c67
             have H' := M0 H
             clear H
             go_wp2
             go_meet
             case rel => exact ⟨_, ((x7_4 == 9)), (by (simp [*]; done)), H', ⟨by have := HJ4.out; have := HJ11.out; have := HJ38.out; omega⟩, ⟨by exact BK737.out⟩, ⟨by with_reducible exact HI0.out⟩, ⟨by with_reducible exact HK.out⟩, ⟨by with_reducible exact HB.out⟩⟩
            ·rw [if_neg c67] at H
             have c67b0 := bF c67
             have c67b1 := nT c67
             by_cases c68 : x7_4 = 10
             ·rw [if_pos c68] at H
              have c68b0 := bT c68
              clear c68
              have H' := M0 H
              clear H
              go_wp2
              go_meet
              case rel => exact ⟨_, ((x7_4 == 10)), (by (simp [*]; done)), H', ⟨by have := HJ4.out; have := HJ11.out; have := HJ38.out; omega⟩, ⟨by exact BK737.out⟩, ⟨by with_reducible exact HI0.out⟩, ⟨by with_reducible exact HK.out⟩, ⟨by with_reducible exact HB.out⟩⟩
             ·rw [if_neg c68] at H
              have c68b0 := bF c68
              have H' := M0 H
              clear H
              go_wp2
              go_meet
              case rel => exact ⟨_, ((x7_4 == 11)), (by rfl), H', ⟨by have := HJ4.out; have := HJ11.out; have := HJ38.out; omega⟩, ⟨by exact BK737.out⟩, ⟨by with_reducible exact HI0.out⟩, ⟨by with_reducible exact HK.out⟩, ⟨by with_reducible exact HB.out⟩⟩
          case rest =>
           clear HC65
           obtain ⟨kq, x62_64, rfl, HA, HJ64, BK737, HI0, HK, HB⟩ := hcut
           cases kq with
           | zero => exact absurd HA.out (by simp [canopylaw5_maker_make.j3])
           | succ kj64 =>
            have H := HA.out
            clear HA
            simp only [canopylaw5_maker_make.j3] at H
            by_cases c69 : x62_64 = true
            ·subst c69
             rw [if_pos rfl] at H
             replace H := Option.bind_eq_some_iff.mp H
             obtain ⟨⟨t758, t759, t760, t761, t764⟩, A700, H⟩ := H
             try dsimp only at H
             have A70 := M0 A700
             clear A700
             replace H := Option.bind_eq_some_iff.mp H
             obtain ⟨⟨t765, t766, t767, t768, t771⟩, A710, H⟩ := H
             try dsimp only at H
             have A71 := M0 A710
             clear A710
             obtain ⟨y772, hy772⟩ : ∃ y_ : List (S28), y_ = (([(⟨t758, t759, t760, t761⟩ : S28), (⟨t765, t766, t767, t768⟩ : S28)] : List (S28))) := ⟨_, rfl⟩
             replace H : ((canopylaw5_maker_next.f s0_0 s0_1 t771 3).bind fun bt775 => (if bt775.1 = 0 then ((canopylaw5_maker_make.f kj64 s0_0 s0_1 bt775.2 (wrap64 (a1 - 1)) a2).bind fun bt777 => (if y772.length < 2932031007402 then (some (wrap64 (5 + (Int.tmod x7_4 2)), 0, 0, (y772 ++ [(⟨bt777.1, bt777.2.1, bt777.2.2.1, bt777.2.2.2.1⟩ : S28)]), bt777.2.2.2.2)) else (none))) else (some (wrap64 (5 + (Int.tmod x7_4 2)), 0, 0, y772, bt775.2)))) = some (r1, r2, r3, r4, r5) := by (have H2_ := (Option.bind_some _ _).symm.trans H; rw [hy772]; with_reducible exact H2_)
             have Ny772 := M0 hy772
             clear hy772
             replace H := Option.bind_eq_some_iff.mp H
             obtain ⟨⟨t775, t776⟩, A720, H⟩ := H
             try dsimp only at H
             have A72 := M0 A720
             clear A720
             by_cases c73 : t775 = 0
             ·rw [if_pos c73] at H
              have c73b0 := bT c73
              clear c73
              replace H := Option.bind_eq_some_iff.mp H
              obtain ⟨⟨t777, t778, t779, t780, t783⟩, A740, H⟩ := H
              try dsimp only at H
              have A74 := M0 A740
              clear A740
              by_cases c75 : y772.length < 2932031007402
              ·rw [if_pos c75] at H
               have LMc75 := M0 c75
               clear c75
               obtain ⟨y784, hy784⟩ : ∃ y_ : List (S28), y_ = (y772 ++ [(⟨t777, t778, t779, t780⟩ : S28)]) := ⟨_, rfl⟩
               replace H : (some (wrap64 (5 + (Int.tmod x7_4 2)), 0, 0, y784, t783)) = some (r1, r2, r3, r4, r5) := by (rw [hy784]; with_reducible exact H)
               have Ny784 := M0 hy784
               clear hy784
               simp only [Option.some.injEq, Prod.mk.injEq] at H
               obtain ⟨rfl, rfl, rfl, rfl, rfl⟩ := H
               go_wp2_with (first | ((with_reducible refine gate_callee (f := 30) rfl ?_); refine goesL_ (some 71) rfl rfl Try.func30 (by kernel_rfl) rfl #[.pointer (some ⟨g, 0, none⟩), .int .i64 (wrap64 (a1 - 1)), .bool a2] rfl (by (simp only [List.map_toArray, List.map_cons, List.map_nil]); rfl) ?_; (with_reducible refine (ih kj64 (by have := HJ4.out; have := HJ11.out; have := HJ38.out; have := HJ64.out; omega) g s0_0 s0_1 t739 (wrap64 (a1 - 1)) a2 t758 t759 t760 t761 t764 w0 _ ?side1 ?side2 A70.out).mono ?_); (case side1 => exact HI0.out); (case side2 => exact HB.out); rintro e w76 ⟨v762, rfl, ho0, hi, hb, hk⟩; refine ⟨_, rfl, ?_⟩; have HO763 := M0 (Kd.N_lower (Kd.N_mono (ok' := fun k_ => (w.heap.size ≤ k_) ∧ k_ ≠ gb737 ∧ k_ ≠ g) ho0 (fun k_ hk_ => ⟨(Nat.le_trans (keep_size HK.out) hk_), (Kd.freshB BK737.out k_ hk_), (IsS59.fresh HI0.out k_ hk_)⟩)) (keep_size HK.out)); replace BK737 := M0 (KeepBut.blk hk BK737.out NB737_0.out (by simp)); replace HK := M0 (KeepBut.trans HK.out hk (.inl rfl)); replace HB := M0 hb; replace HI0 := M0 hi; clear hb hk hi ho0) | ((with_reducible refine gate_callee (f := 30) rfl ?_); refine goesL_ (some 76) rfl rfl Try.func30 (by kernel_rfl) rfl #[.pointer (some ⟨g, 0, none⟩), .int .i64 (wrap64 (a1 - 1)), .bool a2] rfl (by (simp only [List.map_toArray, List.map_cons, List.map_nil]); rfl) ?_; (with_reducible refine (ih kj64 (by have := HJ4.out; have := HJ11.out; have := HJ38.out; have := HJ64.out; omega) g s0_0 s0_1 t764 (wrap64 (a1 - 1)) a2 t765 t766 t767 t768 t771 w0 _ ?side1 ?side2 A71.out).mono ?_); (case side1 => exact HI0.out); (case side2 => exact HB.out); rintro e w77 ⟨v769, rfl, ho0, hi, hb, hk⟩; refine ⟨_, rfl, ?_⟩; have HO770 := M0 (Kd.N_lower (Kd.N_mono (ok' := fun k_ => (w.heap.size ≤ k_) ∧ some k_ ≠ (v762 : Value).ownBlock ∧ k_ ≠ gb737 ∧ k_ ≠ g) ho0 (fun k_ hk_ => ⟨(Nat.le_trans (keep_size HK.out) hk_), (Kd.fresh' (Kd.N_lt HO763.out) k_ hk_), (Kd.freshB BK737.out k_ hk_), (IsS59.fresh HI0.out k_ hk_)⟩)) (keep_size HK.out)); replace BK737 := M0 (KeepBut.blk hk BK737.out NB737_0.out (by simp)); replace HO763 := M0 (Kd.N_mono (Kd.N_told (Kd.N_oldK (Kd.N_mono (ok := fun k_ => (((w.heap.size ≤ k_)) ∧ (k_ ≠ gb737 ∧ k_ ≠ g))) HO763.out (fun k_ hk_ => (⟨hk_, hk_.2.2⟩ : _ ∧ k_ ≠ g))) hk) (Kd.N_base ho0)) (fun _ h_ => h_.1)); replace HK := M0 (KeepBut.trans HK.out hk (.inl rfl)); replace HB := M0 hb; replace HI0 := M0 hi; clear hb hk hi ho0; obtain ⟨Ao78, co78, eo78⟩ := Kd.N_slice HO763.out; subst eo78; obtain ⟨Ao79, co79, eo79⟩ := Kd.N_slice HO770.out; subst eo79) | ((with_reducible refine gate_dst (N := 77) rfl ?_); refine Kd.N_lit k28 _ 28 ?hg (N' := 77) ?hd (xs := ([(⟨t758, t759, t760, t761⟩ : S28), (⟨t765, t766, t767, t768⟩ : S28)] : List (S28))) (inner := [.int .i64 t758, .int .i64 t759, .int .i64 t760, .slice Ao78 t761.length co78, .int .i64 t765, .int .i64 t766, .int .i64 t767, .slice Ao79 t768.length co79]) (ok := (fun k_ => (w.heap.size ≤ k_) ∧ k_ ≠ gb737 ∧ k_ ≠ g)) (okp := (fun k_ => (w.heap.size ≤ k_) ∧ k_ ≠ gb737 ∧ k_ ≠ g)) ?hr ?hp (fun _ hk => hk) ((show ∀ k_, w77.heap.size ≤ k_ → (fun k_ => (w.heap.size ≤ k_) ∧ k_ ≠ gb737 ∧ k_ ≠ g) k_ from fun k_ hk => ⟨(Nat.le_trans (keep_size HK.out) hk), Kd.freshB BK737.out k_ hk, IsS59.fresh HI0.out k_ hk⟩) _ (Nat.le_refl _)) (Below.refl _ _) (Nat.le_refl _) (by simp) ?_; (case hd => rfl); (case hg => rfl); (case hr => (go_simp; done)); (case hp => exact (Reps.c4 (show Kd.FK k28 _ _ (⟨t758, t759, t760, t761⟩ : S28) [.int .i64 t758, .int .i64 t759, .int .i64 t760, .slice Ao78 t761.length co78] from (k28_mkF _ _ (⟨t758, t759, t760, t761⟩ : S28) (Kd.N_reads' (Kd.N_mono (ok' := (fun k_ => (w.heap.size ≤ k_) ∧ k_ ≠ gb737 ∧ k_ ≠ g)) (HO763.out) (fun k_ hk => ⟨hk.1.1, ⟨hk.1.2.1, hk.1.2.2⟩⟩))).2.1 (Kd.N_F (Kd.N_mono (ok' := (fun k_ => (w.heap.size ≤ k_) ∧ k_ ≠ gb737 ∧ k_ ≠ g)) (HO763.out) (fun k_ hk => ⟨hk.1.1, ⟨hk.1.2.1, hk.1.2.2⟩⟩))))) (Reps.c4 (show Kd.FK k28 _ _ (⟨t765, t766, t767, t768⟩ : S28) [.int .i64 t765, .int .i64 t766, .int .i64 t767, .slice Ao79 t768.length co79] from (k28_mkF _ _ (⟨t765, t766, t767, t768⟩ : S28) (Kd.N_reads' (Kd.N_mono (ok' := (fun k_ => (w.heap.size ≤ k_) ∧ k_ ≠ gb737 ∧ k_ ≠ g)) (HO770.out) (fun k_ hk => ⟨hk.1, ⟨hk.2.2.1, hk.2.2.2⟩⟩))).2.1 (Kd.N_F (Kd.N_mono (ok' := (fun k_ => (w.heap.size ≤ k_) ∧ k_ ≠ gb737 ∧ k_ ≠ g)) (HO770.out) (fun k_ hk => ⟨hk.1, ⟨hk.2.2.1, hk.2.2.2⟩⟩))))) (Reps.none _ _)))); intro v773 w80 ho81 hb hg_ hnew_; clear hg_ hnew_; (rw [← Ny772.out] at ho81); have HO774 := M0 (Kd.N_lower ho81 (keep_size HK.out)); replace BK737 := M0 (blk_below BK737.out hb); replace HI0 := M0 (IsS59.below HI0.out hb); replace HK := M0 (KeepBut.trans HK.out (KeepBut.of_below hb g none) (.inl rfl)); replace HB := M0 (below_step HB.out hb); clear HO763 HO770 hb ho81) | ((with_reducible refine gate_callee (f := 51) rfl ?_); refine goesL_ (some 79) rfl rfl Try.func51 (by kernel_rfl) rfl #[.pointer (some ⟨g, 0, none⟩), .int .i64 3] rfl (by (simp only [List.map_toArray, List.map_cons, List.map_nil]); rfl) ?_; (with_reducible refine (canopylaw5_maker_next.calls g s0_0 s0_1 t771 3 t775 t776 w0 _ HI0.out HB.out A72.out).mono ?_); rintro e w82 ⟨rfl, hi, hb, hk⟩; refine ⟨_, rfl, ?_⟩; replace BK737 := M0 (KeepBut.blk hk BK737.out NB737_0.out (by simp)); replace HO774 := M0 (Kd.N_mono (Kd.N_keep (Kd.N_mono (ok := fun k_ => (((w.heap.size ≤ k_)) ∧ (k_ ≠ gb737 ∧ k_ ≠ g))) HO774.out (fun k_ hk_ => (⟨hk_, hk_.2.2⟩ : _ ∧ k_ ≠ g))) hk (fun _ h => h.2)) (fun _ h => h.1)); replace HK := M0 (KeepBut.trans HK.out hk (.inl rfl)); replace HB := M0 hb; replace HI0 := M0 hi; clear hb hk hi) | ((with_reducible refine gate_callee (f := 30) rfl ?_); refine goesL_ (some 86) rfl rfl Try.func30 (by kernel_rfl) rfl #[.pointer (some ⟨g, 0, none⟩), .int .i64 (wrap64 (a1 - 1)), .bool a2] rfl (by (simp only [List.map_toArray, List.map_cons, List.map_nil]); rfl) ?_; (with_reducible refine (ih kj64 (by have := HJ4.out; have := HJ11.out; have := HJ38.out; have := HJ64.out; omega) g s0_0 s0_1 t776 (wrap64 (a1 - 1)) a2 t777 t778 t779 t780 t783 w0 _ ?side1 ?side2 A74.out).mono ?_); (case side1 => exact HI0.out); (case side2 => exact HB.out); rintro e w83 ⟨v781, rfl, ho0, hi, hb, hk⟩; refine ⟨_, rfl, ?_⟩; have HO782 := M0 (Kd.N_lower (Kd.N_mono (ok' := fun k_ => (w.heap.size ≤ k_) ∧ some k_ ≠ (v773 : Value).ownBlock ∧ k_ ≠ gb737 ∧ k_ ≠ g) ho0 (fun k_ hk_ => ⟨(Nat.le_trans (keep_size HK.out) hk_), (Kd.fresh' (Kd.N_lt HO774.out) k_ hk_), (Kd.freshB BK737.out k_ hk_), (IsS59.fresh HI0.out k_ hk_)⟩)) (keep_size HK.out)); replace BK737 := M0 (KeepBut.blk hk BK737.out NB737_0.out (by simp)); replace HO774 := M0 (Kd.N_mono (Kd.N_told (Kd.N_oldK (Kd.N_mono (ok := fun k_ => (((w.heap.size ≤ k_)) ∧ (k_ ≠ gb737 ∧ k_ ≠ g))) HO774.out (fun k_ hk_ => (⟨hk_, hk_.2.2⟩ : _ ∧ k_ ≠ g))) hk) (Kd.N_base ho0)) (fun _ h_ => h_.1)); replace HK := M0 (KeepBut.trans HK.out hk (.inl rfl)); replace HB := M0 hb; replace HI0 := M0 hi; clear hb hk hi ho0; obtain ⟨Ao85, co85, eo85⟩ := Kd.N_slice HO782.out; subst eo85) | ((with_reducible refine gate_builtin (b := .append) (xs := #[.tmp 81, .tmp 87]) rfl ?_); at_builtin; refine Kd.N_append k28 w.heap.size rfl (.tmp 81) (.tmp 87) 26 28 (.agg #[(.int .i64 0), (.int .i64 0), (.int .i64 0), (.slice none 0 0)]) 48 rfl Try.underlying26 info28 rfl (by decide) (by omega) v773 y772 (⟨t777, t778, t779, t780⟩ : S28) [.int .i64 t777, .int .i64 t778, .int .i64 t779, .slice Ao85 t780.length co85] (fun k_ => (w.heap.size ≤ k_) ∧ k_ ≠ gb737 ∧ k_ ≠ g) (fun k_ => ((fun k_ => (w.heap.size ≤ k_) ∧ k_ ≠ gb737 ∧ k_ ≠ g)) k_ ∧ some k_ ≠ (v773 : Value).ownBlock) rfl rfl ?aP (fun _ hk => hk) ?aF ?aO (Below.refl _ _) ?aS ?aL ?_; (case aP => exact (k28_mkF _ _ (⟨t777, t778, t779, t780⟩ : S28) (Kd.N_reads' (Kd.N_mono (ok' := (fun k_ => ((fun k_ => (w.heap.size ≤ k_) ∧ k_ ≠ gb737 ∧ k_ ≠ g)) k_ ∧ some k_ ≠ (v773 : Value).ownBlock)) (HO782.out) (fun k_ hk => ⟨⟨hk.1, ⟨hk.2.2.1, hk.2.2.2⟩⟩, hk.2.1⟩))).2.1 (Kd.N_F (Kd.N_mono (ok' := (fun k_ => ((fun k_ => (w.heap.size ≤ k_) ∧ k_ ≠ gb737 ∧ k_ ≠ g)) k_ ∧ some k_ ≠ (v773 : Value).ownBlock)) (HO782.out) (fun k_ hk => ⟨⟨hk.1, ⟨hk.2.2.1, hk.2.2.2⟩⟩, hk.2.1⟩))))); (case aF => exact (fun k_ hk => ⟨(Nat.le_trans (keep_size HK.out) hk), Kd.freshB BK737.out k_ hk, IsS59.fresh HI0.out k_ hk⟩)); (case aO => exact (by exact Kd.N_mono HO774.out (fun _ hk => ⟨hk.1.1, ⟨hk.1.2.1, hk.1.2.2⟩⟩))); (case aS => exact (keep_size HK.out)); (case aL => have := LMc75.out; omega); intro v785 w84 ho hb hg hat; rw [← Ny784.out] at ho; replace BK737 := M0 (blk_grown BK737.out hg (Kd.N_away HO774.out (fun _ hk => hk.1.2.1))); replace HI0 := M0 (IsS59.grown HI0.out hg (IsS59.own_neN HI0.out HO774.out (by decide))); replace HB := M0 (below_weaken HB.out HL.out hb); replace HK := M0 (KeepBut.trans HK.out (KeepBut.of_grown hg g) (Kd.N_base2 HO774.out)); have HO786 := M0 ho; clear HO774 HO782 ho hb hg hat; obtain ⟨Ao86, co86, eo86⟩ := Kd.N_slice HO786.out; subst eo86; obtain ⟨_, _, _, _, _, _, _, _⟩ := cells4 BK737.out))
               refine bodyPost_ret (results_cell_row rfl _ _ gb737 28 #[.int .i64 (wrap64 (5 + (Int.tmod x7_4 2))), .int .i64 0, .int .i64 0, .slice Ao86 y784.length co86] (0, 0) _ rfl (by refine blk_put (cs := #[.int .i64 (wrap64 (5 + (Int.tmod x7_4 2))), .int .i64 0, .int .i64 0, .slice none 0 0]) ?_ 3 _ rfl; refine blk_put (cs := #[.int .i64 (wrap64 (5 + (Int.tmod x7_4 2))), .int .i64 0, .int .i64 0, .slice none 0 0]) ?_ 2 _ rfl; refine blk_put (cs := #[.int .i64 (wrap64 (5 + (Int.tmod x7_4 2))), .int .i64 0, .int .i64 0, .slice none 0 0]) ?_ 1 _ rfl; refine blk_put (cs := #[.int .i64 0, .int .i64 0, .int .i64 0, .slice none 0 0]) ?_ 0 _ rfl; exact BK737.out) Try.underlying28 rfl (by kernel_rfl)) rfl ?_
               exact ⟨_, by rfl, by exact Kd.N_mono (Kd.N_far (p := ⟨gb737, 3, none⟩) (Kd.N_far (p := ⟨gb737, 2, none⟩) (Kd.N_far (p := ⟨gb737, 1, none⟩) (Kd.N_far (p := ⟨gb737, 0, none⟩) (Kd.N_mono HO786.out (fun k_ hk => (⟨hk, hk.2.1⟩ : _ ∧ k_ ≠ gb737))) (fun _ hk => hk.2) (.int .i64 (wrap64 (5 + (Int.tmod x7_4 2))))) (fun _ hk => hk.2) (.int .i64 0)) (fun _ hk => hk.2) (.int .i64 0)) (fun _ hk => hk.2) (.slice Ao86 y784.length co86)) (fun _ hk => hk.1.1), by repeat ((with_reducible first | exact HI0.out | apply IsS59.far_ (hne := NB0_737.out))), by repeat ((with_reducible first | exact HB.out | refine below_set ?_ GE737.out)), by repeat ((with_reducible first | exact HK.out | refine keep_far ?_ GW737.out _))⟩
              ·rw [if_neg c75] at H
               exact absurd H (by simp)
             ·rw [if_neg c73] at H
              have c73b0 := bF c73
              simp only [Option.some.injEq, Prod.mk.injEq] at H
              obtain ⟨rfl, rfl, rfl, rfl, rfl⟩ := H
              go_wp2_with (first | ((with_reducible refine gate_callee (f := 30) rfl ?_); refine goesL_ (some 71) rfl rfl Try.func30 (by kernel_rfl) rfl #[.pointer (some ⟨g, 0, none⟩), .int .i64 (wrap64 (a1 - 1)), .bool a2] rfl (by (simp only [List.map_toArray, List.map_cons, List.map_nil]); rfl) ?_; (with_reducible refine (ih kj64 (by have := HJ4.out; have := HJ11.out; have := HJ38.out; have := HJ64.out; omega) g s0_0 s0_1 t739 (wrap64 (a1 - 1)) a2 t758 t759 t760 t761 t764 w0 _ ?side1 ?side2 A70.out).mono ?_); (case side1 => exact HI0.out); (case side2 => exact HB.out); rintro e w89 ⟨v762, rfl, ho0, hi, hb, hk⟩; refine ⟨_, rfl, ?_⟩; have HO763 := M0 (Kd.N_lower (Kd.N_mono (ok' := fun k_ => (w.heap.size ≤ k_) ∧ k_ ≠ gb737 ∧ k_ ≠ g) ho0 (fun k_ hk_ => ⟨(Nat.le_trans (keep_size HK.out) hk_), (Kd.freshB BK737.out k_ hk_), (IsS59.fresh HI0.out k_ hk_)⟩)) (keep_size HK.out)); replace BK737 := M0 (KeepBut.blk hk BK737.out NB737_0.out (by simp)); replace HK := M0 (KeepBut.trans HK.out hk (.inl rfl)); replace HB := M0 hb; replace HI0 := M0 hi; clear hb hk hi ho0) | ((with_reducible refine gate_callee (f := 30) rfl ?_); refine goesL_ (some 76) rfl rfl Try.func30 (by kernel_rfl) rfl #[.pointer (some ⟨g, 0, none⟩), .int .i64 (wrap64 (a1 - 1)), .bool a2] rfl (by (simp only [List.map_toArray, List.map_cons, List.map_nil]); rfl) ?_; (with_reducible refine (ih kj64 (by have := HJ4.out; have := HJ11.out; have := HJ38.out; have := HJ64.out; omega) g s0_0 s0_1 t764 (wrap64 (a1 - 1)) a2 t765 t766 t767 t768 t771 w0 _ ?side1 ?side2 A71.out).mono ?_); (case side1 => exact HI0.out); (case side2 => exact HB.out); rintro e w90 ⟨v769, rfl, ho0, hi, hb, hk⟩; refine ⟨_, rfl, ?_⟩; have HO770 := M0 (Kd.N_lower (Kd.N_mono (ok' := fun k_ => (w.heap.size ≤ k_) ∧ some k_ ≠ (v762 : Value).ownBlock ∧ k_ ≠ gb737 ∧ k_ ≠ g) ho0 (fun k_ hk_ => ⟨(Nat.le_trans (keep_size HK.out) hk_), (Kd.fresh' (Kd.N_lt HO763.out) k_ hk_), (Kd.freshB BK737.out k_ hk_), (IsS59.fresh HI0.out k_ hk_)⟩)) (keep_size HK.out)); replace BK737 := M0 (KeepBut.blk hk BK737.out NB737_0.out (by simp)); replace HO763 := M0 (Kd.N_mono (Kd.N_told (Kd.N_oldK (Kd.N_mono (ok := fun k_ => (((w.heap.size ≤ k_)) ∧ (k_ ≠ gb737 ∧ k_ ≠ g))) HO763.out (fun k_ hk_ => (⟨hk_, hk_.2.2⟩ : _ ∧ k_ ≠ g))) hk) (Kd.N_base ho0)) (fun _ h_ => h_.1)); replace HK := M0 (KeepBut.trans HK.out hk (.inl rfl)); replace HB := M0 hb; replace HI0 := M0 hi; clear hb hk hi ho0; obtain ⟨Ao91, co91, eo91⟩ := Kd.N_slice HO763.out; subst eo91; obtain ⟨Ao92, co92, eo92⟩ := Kd.N_slice HO770.out; subst eo92) | ((with_reducible refine gate_dst (N := 77) rfl ?_); refine Kd.N_lit k28 _ 28 ?hg (N' := 77) ?hd (xs := ([(⟨t758, t759, t760, t761⟩ : S28), (⟨t765, t766, t767, t768⟩ : S28)] : List (S28))) (inner := [.int .i64 t758, .int .i64 t759, .int .i64 t760, .slice Ao91 t761.length co91, .int .i64 t765, .int .i64 t766, .int .i64 t767, .slice Ao92 t768.length co92]) (ok := (fun k_ => (w.heap.size ≤ k_) ∧ k_ ≠ gb737 ∧ k_ ≠ g)) (okp := (fun k_ => (w.heap.size ≤ k_) ∧ k_ ≠ gb737 ∧ k_ ≠ g)) ?hr ?hp (fun _ hk => hk) ((show ∀ k_, w90.heap.size ≤ k_ → (fun k_ => (w.heap.size ≤ k_) ∧ k_ ≠ gb737 ∧ k_ ≠ g) k_ from fun k_ hk => ⟨(Nat.le_trans (keep_size HK.out) hk), Kd.freshB BK737.out k_ hk, IsS59.fresh HI0.out k_ hk⟩) _ (Nat.le_refl _)) (Below.refl _ _) (Nat.le_refl _) (by simp) ?_; (case hd => rfl); (case hg => rfl); (case hr => (go_simp; done)); (case hp => exact (Reps.c4 (show Kd.FK k28 _ _ (⟨t758, t759, t760, t761⟩ : S28) [.int .i64 t758, .int .i64 t759, .int .i64 t760, .slice Ao91 t761.length co91] from (k28_mkF _ _ (⟨t758, t759, t760, t761⟩ : S28) (Kd.N_reads' (Kd.N_mono (ok' := (fun k_ => (w.heap.size ≤ k_) ∧ k_ ≠ gb737 ∧ k_ ≠ g)) (HO763.out) (fun k_ hk => ⟨hk.1.1, ⟨hk.1.2.1, hk.1.2.2⟩⟩))).2.1 (Kd.N_F (Kd.N_mono (ok' := (fun k_ => (w.heap.size ≤ k_) ∧ k_ ≠ gb737 ∧ k_ ≠ g)) (HO763.out) (fun k_ hk => ⟨hk.1.1, ⟨hk.1.2.1, hk.1.2.2⟩⟩))))) (Reps.c4 (show Kd.FK k28 _ _ (⟨t765, t766, t767, t768⟩ : S28) [.int .i64 t765, .int .i64 t766, .int .i64 t767, .slice Ao92 t768.length co92] from (k28_mkF _ _ (⟨t765, t766, t767, t768⟩ : S28) (Kd.N_reads' (Kd.N_mono (ok' := (fun k_ => (w.heap.size ≤ k_) ∧ k_ ≠ gb737 ∧ k_ ≠ g)) (HO770.out) (fun k_ hk => ⟨hk.1, ⟨hk.2.2.1, hk.2.2.2⟩⟩))).2.1 (Kd.N_F (Kd.N_mono (ok' := (fun k_ => (w.heap.size ≤ k_) ∧ k_ ≠ gb737 ∧ k_ ≠ g)) (HO770.out) (fun k_ hk => ⟨hk.1, ⟨hk.2.2.1, hk.2.2.2⟩⟩))))) (Reps.none _ _)))); intro v773 w93 ho94 hb hg_ hnew_; clear hg_ hnew_; (rw [← Ny772.out] at ho94); have HO774 := M0 (Kd.N_lower ho94 (keep_size HK.out)); replace BK737 := M0 (blk_below BK737.out hb); replace HI0 := M0 (IsS59.below HI0.out hb); replace HK := M0 (KeepBut.trans HK.out (KeepBut.of_below hb g none) (.inl rfl)); replace HB := M0 (below_step HB.out hb); clear HO763 HO770 hb ho94) | ((with_reducible refine gate_callee (f := 51) rfl ?_); refine goesL_ (some 79) rfl rfl Try.func51 (by kernel_rfl) rfl #[.pointer (some ⟨g, 0, none⟩), .int .i64 3] rfl (by (simp only [List.map_toArray, List.map_cons, List.map_nil]); rfl) ?_; (with_reducible refine (canopylaw5_maker_next.calls g s0_0 s0_1 t771 3 t775 t776 w0 _ HI0.out HB.out A72.out).mono ?_); rintro e w95 ⟨rfl, hi, hb, hk⟩; refine ⟨_, rfl, ?_⟩; replace BK737 := M0 (KeepBut.blk hk BK737.out NB737_0.out (by simp)); replace HO774 := M0 (Kd.N_mono (Kd.N_keep (Kd.N_mono (ok := fun k_ => (((w.heap.size ≤ k_)) ∧ (k_ ≠ gb737 ∧ k_ ≠ g))) HO774.out (fun k_ hk_ => (⟨hk_, hk_.2.2⟩ : _ ∧ k_ ≠ g))) hk (fun _ h => h.2)) (fun _ h => h.1)); replace HK := M0 (KeepBut.trans HK.out hk (.inl rfl)); replace HB := M0 hb; replace HI0 := M0 hi; clear hb hk hi; obtain ⟨Ao96, co96, eo96⟩ := Kd.N_slice HO774.out; subst eo96; obtain ⟨_, _, _, _, _, _, _, _⟩ := cells4 BK737.out))
              refine bodyPost_ret (results_cell_row rfl _ _ gb737 28 #[.int .i64 (wrap64 (5 + (Int.tmod x7_4 2))), .int .i64 0, .int .i64 0, .slice Ao96 y772.length co96] (0, 0) _ rfl (by refine blk_put (cs := #[.int .i64 (wrap64 (5 + (Int.tmod x7_4 2))), .int .i64 0, .int .i64 0, .slice none 0 0]) ?_ 3 _ rfl; refine blk_put (cs := #[.int .i64 (wrap64 (5 + (Int.tmod x7_4 2))), .int .i64 0, .int .i64 0, .slice none 0 0]) ?_ 2 _ rfl; refine blk_put (cs := #[.int .i64 (wrap64 (5 + (Int.tmod x7_4 2))), .int .i64 0, .int .i64 0, .slice none 0 0]) ?_ 1 _ rfl; refine blk_put (cs := #[.int .i64 0, .int .i64 0, .int .i64 0, .slice none 0 0]) ?_ 0 _ rfl; exact BK737.out) Try.underlying28 rfl (by kernel_rfl)) rfl ?_
              exact ⟨_, by rfl, by exact Kd.N_mono (Kd.N_far (p := ⟨gb737, 3, none⟩) (Kd.N_far (p := ⟨gb737, 2, none⟩) (Kd.N_far (p := ⟨gb737, 1, none⟩) (Kd.N_far (p := ⟨gb737, 0, none⟩) (Kd.N_mono HO774.out (fun k_ hk => (⟨hk, hk.2.1⟩ : _ ∧ k_ ≠ gb737))) (fun _ hk => hk.2) (.int .i64 (wrap64 (5 + (Int.tmod x7_4 2))))) (fun _ hk => hk.2) (.int .i64 0)) (fun _ hk => hk.2) (.int .i64 0)) (fun _ hk => hk.2) (.slice Ao96 y772.length co96)) (fun _ hk => hk.1.1), by repeat ((with_reducible first | exact HI0.out | apply IsS59.far_ (hne := NB0_737.out))), by repeat ((with_reducible first | exact HB.out | refine below_set ?_ GE737.out)), by repeat ((with_reducible first | exact HK.out | refine keep_far ?_ GW737.out _))⟩
            ·replace c69 := Bool.eq_false_iff.mpr c69
             subst c69
             rw [if_neg (show ¬ (false = true) by decide)] at H
             by_cases c99 : x7_4 = 12
             ·rw [if_pos c99] at H
              have c99b0 := bT c99
              clear c99
              replace H := Option.bind_eq_some_iff.mp H
              obtain ⟨⟨t787, t788, t789, t790, t793⟩, A1000, H⟩ := H
              try dsimp only at H
              have A100 := M0 A1000
              clear A1000
              obtain ⟨y794, hy794⟩ : ∃ y_ : List (S28), y_ = (([(⟨t787, t788, t789, t790⟩ : S28)] : List (S28))) := ⟨_, rfl⟩
              replace H : (some (7, 0, 0, y794, t793)) = some (r1, r2, r3, r4, r5) := by (rw [hy794]; with_reducible exact H)
              have Ny794 := M0 hy794
              clear hy794
              simp only [Option.some.injEq, Prod.mk.injEq] at H
              obtain ⟨rfl, rfl, rfl, rfl, rfl⟩ := H
              go_wp2_with (first | ((with_reducible refine gate_callee (f := 30) rfl ?_); refine goesL_ (some 101) rfl rfl Try.func30 (by kernel_rfl) rfl #[.pointer (some ⟨g, 0, none⟩), .int .i64 (wrap64 (a1 - 1)), .bool a2] rfl (by (simp only [List.map_toArray, List.map_cons, List.map_nil]); rfl) ?_; (with_reducible refine (ih kj64 (by have := HJ4.out; have := HJ11.out; have := HJ38.out; have := HJ64.out; omega) g s0_0 s0_1 t739 (wrap64 (a1 - 1)) a2 t787 t788 t789 t790 t793 w0 _ ?side1 ?side2 A100.out).mono ?_); (case side1 => exact HI0.out); (case side2 => exact HB.out); rintro e w101 ⟨v791, rfl, ho0, hi, hb, hk⟩; refine ⟨_, rfl, ?_⟩; have HO792 := M0 (Kd.N_lower (Kd.N_mono (ok' := fun k_ => (w.heap.size ≤ k_) ∧ k_ ≠ gb737 ∧ k_ ≠ g) ho0 (fun k_ hk_ => ⟨(Nat.le_trans (keep_size HK.out) hk_), (Kd.freshB BK737.out k_ hk_), (IsS59.fresh HI0.out k_ hk_)⟩)) (keep_size HK.out)); replace BK737 := M0 (KeepBut.blk hk BK737.out NB737_0.out (by simp)); replace HK := M0 (KeepBut.trans HK.out hk (.inl rfl)); replace HB := M0 hb; replace HI0 := M0 hi; clear hb hk hi ho0; obtain ⟨Ao102, co102, eo102⟩ := Kd.N_slice HO792.out; subst eo102) | ((with_reducible refine gate_dst (N := 102) rfl ?_); refine Kd.N_lit k28 _ 28 ?hg (N' := 102) ?hd (xs := ([(⟨t787, t788, t789, t790⟩ : S28)] : List (S28))) (inner := [.int .i64 t787, .int .i64 t788, .int .i64 t789, .slice Ao102 t790.length co102]) (ok := (fun k_ => (w.heap.size ≤ k_) ∧ k_ ≠ gb737 ∧ k_ ≠ g)) (okp := (fun k_ => (w.heap.size ≤ k_) ∧ k_ ≠ gb737 ∧ k_ ≠ g)) ?hr ?hp (fun _ hk => hk) ((show ∀ k_, w101.heap.size ≤ k_ → (fun k_ => (w.heap.size ≤ k_) ∧ k_ ≠ gb737 ∧ k_ ≠ g) k_ from fun k_ hk => ⟨(Nat.le_trans (keep_size HK.out) hk), Kd.freshB BK737.out k_ hk, IsS59.fresh HI0.out k_ hk⟩) _ (Nat.le_refl _)) (Below.refl _ _) (Nat.le_refl _) (by simp) ?_; (case hd => rfl); (case hg => rfl); (case hr => (go_simp; done)); (case hp => exact (Reps.c4 (show Kd.FK k28 _ _ (⟨t787, t788, t789, t790⟩ : S28) [.int .i64 t787, .int .i64 t788, .int .i64 t789, .slice Ao102 t790.length co102] from (k28_mkF _ _ (⟨t787, t788, t789, t790⟩ : S28) (Kd.N_reads' (Kd.N_mono (ok' := (fun k_ => (w.heap.size ≤ k_) ∧ k_ ≠ gb737 ∧ k_ ≠ g)) (HO792.out) (fun k_ hk => ⟨hk.1, ⟨hk.2.1, hk.2.2⟩⟩))).2.1 (Kd.N_F (Kd.N_mono (ok' := (fun k_ => (w.heap.size ≤ k_) ∧ k_ ≠ gb737 ∧ k_ ≠ g)) (HO792.out) (fun k_ hk => ⟨hk.1, ⟨hk.2.1, hk.2.2⟩⟩))))) (Reps.none _ _))); intro v795 w103 ho104 hb hg_ hnew_; clear hg_ hnew_; (rw [← Ny794.out] at ho104); have HO796 := M0 (Kd.N_lower ho104 (keep_size HK.out)); replace BK737 := M0 (blk_below BK737.out hb); replace HI0 := M0 (IsS59.below HI0.out hb); replace HK := M0 (KeepBut.trans HK.out (KeepBut.of_below hb g none) (.inl rfl)); replace HB := M0 (below_step HB.out hb); clear HO792 hb ho104; obtain ⟨Ao105, co105, eo105⟩ := Kd.N_slice HO796.out; subst eo105; obtain ⟨_, _, _, _, _, _, _, _⟩ := cells4 BK737.out))
              refine bodyPost_ret (results_cell_row rfl _ _ gb737 28 #[.int .i64 7, .int .i64 0, .int .i64 0, .slice Ao105 y794.length co105] (0, 0) _ rfl (by refine blk_put (cs := #[.int .i64 7, .int .i64 0, .int .i64 0, .slice none 0 0]) ?_ 3 _ rfl; refine blk_put (cs := #[.int .i64 7, .int .i64 0, .int .i64 0, .slice none 0 0]) ?_ 2 _ rfl; refine blk_put (cs := #[.int .i64 7, .int .i64 0, .int .i64 0, .slice none 0 0]) ?_ 1 _ rfl; refine blk_put (cs := #[.int .i64 0, .int .i64 0, .int .i64 0, .slice none 0 0]) ?_ 0 _ rfl; exact BK737.out) Try.underlying28 rfl (by kernel_rfl)) rfl ?_
              exact ⟨_, by rfl, by exact Kd.N_mono (Kd.N_far (p := ⟨gb737, 3, none⟩) (Kd.N_far (p := ⟨gb737, 2, none⟩) (Kd.N_far (p := ⟨gb737, 1, none⟩) (Kd.N_far (p := ⟨gb737, 0, none⟩) (Kd.N_mono HO796.out (fun k_ hk => (⟨hk, hk.2.1⟩ : _ ∧ k_ ≠ gb737))) (fun _ hk => hk.2) (.int .i64 7)) (fun _ hk => hk.2) (.int .i64 0)) (fun _ hk => hk.2) (.int .i64 0)) (fun _ hk => hk.2) (.slice Ao105 y794.length co105)) (fun _ hk => hk.1.1), by repeat ((with_reducible first | exact HI0.out | apply IsS59.far_ (hne := NB0_737.out))), by repeat ((with_reducible first | exact HB.out | refine below_set ?_ GE737.out)), by repeat ((with_reducible first | exact HK.out | refine keep_far ?_ GW737.out _))⟩
             ·rw [if_neg c99] at H
              have c99b0 := bF c99
              have c99b1 := nT c99
              by_cases c108 : x7_4 = 13
              ·rw [if_pos c108] at H
               have c108b0 := bT c108
               clear c108
               replace H := Option.bind_eq_some_iff.mp H
               obtain ⟨⟨t797, t798, t799, t800, t803⟩, A1090, H⟩ := H
               try dsimp only at H
               have A109 := M0 A1090
               clear A1090
               obtain ⟨y804, hy804⟩ : ∃ y_ : List (S28), y_ = (([(⟨t797, t798, t799, t800⟩ : S28)] : List (S28))) := ⟨_, rfl⟩
               replace H : (some (7, 0, 0, y804, t803)) = some (r1, r2, r3, r4, r5) := by (rw [hy804]; with_reducible exact H)
               have Ny804 := M0 hy804
               clear hy804
               simp only [Option.some.injEq, Prod.mk.injEq] at H
               obtain ⟨rfl, rfl, rfl, rfl, rfl⟩ := H
               go_wp2_with (first | ((with_reducible refine gate_callee (f := 30) rfl ?_); refine goesL_ (some 101) rfl rfl Try.func30 (by kernel_rfl) rfl #[.pointer (some ⟨g, 0, none⟩), .int .i64 (wrap64 (a1 - 1)), .bool a2] rfl (by (simp only [List.map_toArray, List.map_cons, List.map_nil]); rfl) ?_; (with_reducible refine (ih kj64 (by have := HJ4.out; have := HJ11.out; have := HJ38.out; have := HJ64.out; omega) g s0_0 s0_1 t739 (wrap64 (a1 - 1)) a2 t797 t798 t799 t800 t803 w0 _ ?side1 ?side2 A109.out).mono ?_); (case side1 => exact HI0.out); (case side2 => exact HB.out); rintro e w110 ⟨v801, rfl, ho0, hi, hb, hk⟩; refine ⟨_, rfl, ?_⟩; have HO802 := M0 (Kd.N_lower (Kd.N_mono (ok' := fun k_ => (w.heap.size ≤ k_) ∧ k_ ≠ gb737 ∧ k_ ≠ g) ho0 (fun k_ hk_ => ⟨(Nat.le_trans (keep_size HK.out) hk_), (Kd.freshB BK737.out k_ hk_), (IsS59.fresh HI0.out k_ hk_)⟩)) (keep_size HK.out)); replace BK737 := M0 (KeepBut.blk hk BK737.out NB737_0.out (by simp)); replace HK := M0 (KeepBut.trans HK.out hk (.inl rfl)); replace HB := M0 hb; replace HI0 := M0 hi; clear hb hk hi ho0; obtain ⟨Ao111, co111, eo111⟩ := Kd.N_slice HO802.out; subst eo111) | ((with_reducible refine gate_dst (N := 102) rfl ?_); refine Kd.N_lit k28 _ 28 ?hg (N' := 102) ?hd (xs := ([(⟨t797, t798, t799, t800⟩ : S28)] : List (S28))) (inner := [.int .i64 t797, .int .i64 t798, .int .i64 t799, .slice Ao111 t800.length co111]) (ok := (fun k_ => (w.heap.size ≤ k_) ∧ k_ ≠ gb737 ∧ k_ ≠ g)) (okp := (fun k_ => (w.heap.size ≤ k_) ∧ k_ ≠ gb737 ∧ k_ ≠ g)) ?hr ?hp (fun _ hk => hk) ((show ∀ k_, w110.heap.size ≤ k_ → (fun k_ => (w.heap.size ≤ k_) ∧ k_ ≠ gb737 ∧ k_ ≠ g) k_ from fun k_ hk => ⟨(Nat.le_trans (keep_size HK.out) hk), Kd.freshB BK737.out k_ hk, IsS59.fresh HI0.out k_ hk⟩) _ (Nat.le_refl _)) (Below.refl _ _) (Nat.le_refl _) (by simp) ?_; (case hd => rfl); (case hg => rfl); (case hr => (go_simp; done)); (case hp => exact (Reps.c4 (show Kd.FK k28 _ _ (⟨t797, t798, t799, t800⟩ : S28) [.int .i64 t797, .int .i64 t798, .int .i64 t799, .slice Ao111 t800.length co111] from (k28_mkF _ _ (⟨t797, t798, t799, t800⟩ : S28) (Kd.N_reads' (Kd.N_mono (ok' := (fun k_ => (w.heap.size ≤ k_) ∧ k_ ≠ gb737 ∧ k_ ≠ g)) (HO802.out) (fun k_ hk => ⟨hk.1, ⟨hk.2.1, hk.2.2⟩⟩))).2.1 (Kd.N_F (Kd.N_mono (ok' := (fun k_ => (w.heap.size ≤ k_) ∧ k_ ≠ gb737 ∧ k_ ≠ g)) (HO802.out) (fun k_ hk => ⟨hk.1, ⟨hk.2.1, hk.2.2⟩⟩))))) (Reps.none _ _))); intro v805 w112 ho113 hb hg_ hnew_; clear hg_ hnew_; (rw [← Ny804.out] at ho113); have HO806 := M0 (Kd.N_lower ho113 (keep_size HK.out)); replace BK737 := M0 (blk_below BK737.out hb); replace HI0 := M0 (IsS59.below HI0.out hb); replace HK := M0 (KeepBut.trans HK.out (KeepBut.of_below hb g none) (.inl rfl)); replace HB := M0 (below_step HB.out hb); clear HO802 hb ho113; obtain ⟨Ao114, co114, eo114⟩ := Kd.N_slice HO806.out; subst eo114; obtain ⟨_, _, _, _, _, _, _, _⟩ := cells4 BK737.out))
               refine bodyPost_ret (results_cell_row rfl _ _ gb737 28 #[.int .i64 7, .int .i64 0, .int .i64 0, .slice Ao114 y804.length co114] (0, 0) _ rfl (by refine blk_put (cs := #[.int .i64 7, .int .i64 0, .int .i64 0, .slice none 0 0]) ?_ 3 _ rfl; refine blk_put (cs := #[.int .i64 7, .int .i64 0, .int .i64 0, .slice none 0 0]) ?_ 2 _ rfl; refine blk_put (cs := #[.int .i64 7, .int .i64 0, .int .i64 0, .slice none 0 0]) ?_ 1 _ rfl; refine blk_put (cs := #[.int .i64 0, .int .i64 0, .int .i64 0, .slice none 0 0]) ?_ 0 _ rfl; exact BK737.out) Try.underlying28 rfl (by kernel_rfl)) rfl ?_
               exact ⟨_, by rfl, by exact Kd.N_mono (Kd.N_far (p := ⟨gb737, 3, none⟩) (Kd.N_far (p := ⟨gb737, 2, none⟩) (Kd.N_far (p := ⟨gb737, 1, none⟩) (Kd.N_far (p := ⟨gb737, 0, none⟩) (Kd.N_mono HO806.out (fun k_ hk => (⟨hk, hk.2.1⟩ : _ ∧ k_ ≠ gb737))) (fun _ hk => hk.2) (.int .i64 7)) (fun _ hk => hk.2) (.int .i64 0)) (fun _ hk => hk.2) (.int .i64 0)) (fun _ hk => hk.2) (.slice Ao114 y804.length co114)) (fun _ hk => hk.1.1), by repeat ((with_reducible first | exact HI0.out | apply IsS59.far_ (hne := NB0_737.out))), by repeat ((with_reducible first | exact HB.out | refine below_set ?_ GE737.out)), by repeat ((with_reducible first | exact HK.out | refine keep_far ?_ GW737.out _))⟩
              ·rw [if_neg c108] at H
               have c108b0 := bF c108
               simp only [Option.some.injEq, Prod.mk.injEq] at H
               obtain ⟨rfl, rfl, rfl, rfl, rfl⟩ := H
               obtain ⟨_, _, _, _, _, _, _, _⟩ := cells4 BK737.out
               go_wp2
               refine bodyPost_ret (results_cell_row rfl _ _ gb737 28 #[.int .i64 1, .int .i64 0, .int .i64 0, .slice none 0 0] (0, 0) _ rfl (by refine blk_put (cs := #[.int .i64 1, .int .i64 0, .int .i64 0, .slice none 0 0]) ?_ 3 _ rfl; refine blk_put (cs := #[.int .i64 1, .int .i64 0, .int .i64 0, .slice none 0 0]) ?_ 2 _ rfl; refine blk_put (cs := #[.int .i64 1, .int .i64 0, .int .i64 0, .slice none 0 0]) ?_ 1 _ rfl; refine blk_put (cs := #[.int .i64 0, .int .i64 0, .int .i64 0, .slice none 0 0]) ?_ 0 _ rfl; exact BK737.out) Try.underlying28 rfl (by kernel_rfl)) rfl ?_
               exact ⟨_, by rfl, by exact Kd.N_nil _ _ _ _ _, by repeat ((with_reducible first | exact HI0.out | apply IsS59.far_ (hne := NB0_737.out))), by repeat ((with_reducible first | exact HB.out | refine below_set ?_ GE737.out)), by repeat ((with_reducible first | exact HK.out | refine keep_far ?_ GW737.out _))⟩

/-! ### canopylaw5_Make: function 15 -/
def canopylaw5_Make.f (k : Nat) (l0 : List (S56)) (l1 : List Int) (a2 : Int) : Option (Int × Int × Int × (List (S28))) := (canopylaw5_maker_make.f k l0 l1 0 a2 false).bind fun bt809 => (some (bt809.1, bt809.2.1, bt809.2.2.1, bt809.2.2.2.1))
theorem canopylaw5_Make.mono : ∀ a0 a1 a2 k, LeO (canopylaw5_Make.f k a0 a1 a2) (canopylaw5_Make.f (k + 1) a0 a1 a2) := by
 intro a0 a1 a2 k
 unfold canopylaw5_Make.f
 repeat' first
   | (with_reducible exact canopylaw5_maker_make.mono _ _ _ _ _ _)
   | (with_reducible exact LeO.refl _)
   | (with_reducible refine LeO.bind ?_ (fun _ => ?_))
set_option maxHeartbeats 8000000 in
set_option maxRecDepth 100000 in
theorem canopylaw5_Make.calls (k : Nat) (A0 : Option Addr) (c0 : Nat) (l0 : List (S56)) (A1 : Option Addr) (c1 : Nat) (l1 : List Int) (a2 : Int) (r1 : Int) (r2 : Int) (r3 : Int) (r4 : List (S28)) (w : World) (hr0 : Kd.C k56 w A0 l0.length l0) (hc0 : l0.length ≤ c0) (hr1 : Kd.C (Kd.int .i64) w A1 l1.length l1) (hc1 : l1.length ≤ c1) (h : canopylaw5_Make.f k l0 l1 a2 = some (r1, r2, r3, r4)) :
  Calls Try.prog 15 #[.slice A0 l0.length c0, .slice A1 l1.length c1, .int .i64 a2] w fun e w' => ∃ v3_ : Value, e = .returned (.agg #[.int .i64 r1, .int .i64 r2, .int .i64 r3, v3_]) ∧ Kd.N k28 28 w' w.heap.size (fun k_ => (w.heap.size ≤ k_)) v3_ r4 ∧ Below w.heap.size w w' := by
 have HR0 := M0 hr0
 have HC0 := M0 hc0
 clear hr0 hc0
 have HR1 := M0 hr1
 have HC1 := M0 hc1
 clear hr1 hc1
 have HB := M0 (Below.refl w.heap.size w)
 have H : ((canopylaw5_maker_make.f k l0 l1 0 a2 false).bind fun bt809 => (some (bt809.1, bt809.2.1, bt809.2.2.1, bt809.2.2.2.1))) = some (r1, r2, r3, r4) := h
 clear h
 replace H := Option.bind_eq_some_iff.mp H
 obtain ⟨⟨t809, t810, t811, t812, t815⟩, A40, H⟩ := H
 try dsimp only at H
 have A4 := M0 A40
 clear A40
 simp only [Option.some.injEq, Prod.mk.injEq] at H
 obtain ⟨rfl, rfl, rfl, rfl⟩ := H
 go_enter Try.func15, Try.ntmps15
 go_wp2_with (first | ((with_reducible refine gate_dst (N := 6) rfl ?_); refine box_event ?hg (N := 6) ?hd (cs := #[.int .i64 0, .int .i64 0, .int .i64 0, .slice none 0 0]) (t := 28) ?hr ?_; (case hd => rfl); (case hg => rfl); (case hr => (go_simp; done)); intro gb807 hg w5 hbox hb; have BK807 := M0 hbox; have GE807 := M0 ((by rw [hg]; exact (below_size HB.out) : w.heap.size ≤ gb807)); replace HB := M0 (below_step HB.out hb); clear hb hbox hg) | ((with_reducible refine gate_dst (N := 11) rfl ?_); refine box_event ?hg (N := 11) ?hd (cs := #[.slice A0 l0.length c0, .slice A1 l1.length c1, .int .i64 0]) (t := 59) ?hr ?_; (case hd => rfl); (case hg => rfl); (case hr => (go_simp; done)); intro gb808 hg w6 hbox hb; have BK808 := M0 hbox; have GE808 := M0 ((by rw [hg]; exact (below_size HB.out) : w.heap.size ≤ gb808)); replace HB := M0 (below_step HB.out hb); have NB807_808 := M0 ((by rw [hg]; exact Nat.ne_of_lt (blk_lt BK807.out) : gb807 ≠ gb808)); replace BK807 := M0 (blk_below BK807.out hb); clear hb hbox hg; have HI808 := M0 (show IsS59 w w6 gb808 l0 l1 0 from ⟨_, _, _, _, BK808.out, GE808.out, HR0.out, HC0.out, HR1.out, HC1.out⟩)) | ((with_reducible refine gate_callee (f := 30) rfl ?_); refine goesL_ (some 14) rfl rfl Try.func30 (by kernel_rfl) rfl #[.pointer (some ⟨gb808, 0, none⟩), .int .i64 a2, .bool false] rfl (by (simp only [List.map_toArray, List.map_cons, List.map_nil]); rfl) ?_; (with_reducible refine (canopylaw5_maker_make.calls k gb808 l0 l1 0 a2 false t809 t810 t811 t812 t815 w _ HI808.out HB.out A4.out).mono ?_); rintro e w7 ⟨v813, rfl, ho0, hi, hb, hk⟩; refine ⟨_, rfl, ?_⟩; have HO814 := M0 (Kd.N_lower (Kd.N_mono (ok' := fun k_ => (w.heap.size ≤ k_) ∧ k_ ≠ gb807 ∧ k_ ≠ gb808) ho0 (fun k_ hk_ => ⟨(Nat.le_trans (below_size HB.out) hk_), (Kd.freshB BK807.out k_ hk_), (IsS59.fresh HI808.out k_ hk_)⟩)) (below_size HB.out)); replace BK807 := M0 (KeepBut.blk hk BK807.out NB807_808.out (by simp)); replace HB := M0 hb; clear HI808; clear hb hk hi ho0; obtain ⟨_, _, _, _, _, _, _, _⟩ := cells4 BK807.out; obtain ⟨Ao10, co10, eo10⟩ := Kd.N_slice HO814.out; subst eo10))
 refine bodyPost_ret (results_cell_row rfl _ _ gb807 28 #[.int .i64 t809, .int .i64 t810, .int .i64 t811, .slice Ao10 t812.length co10] (0, 0) _ rfl (by refine blk_put (cs := #[.int .i64 t809, .int .i64 t810, .int .i64 t811, .slice none 0 0]) ?_ 3 _ rfl; refine blk_put (cs := #[.int .i64 t809, .int .i64 t810, .int .i64 0, .slice none 0 0]) ?_ 2 _ rfl; refine blk_put (cs := #[.int .i64 t809, .int .i64 0, .int .i64 0, .slice none 0 0]) ?_ 1 _ rfl; refine blk_put (cs := #[.int .i64 0, .int .i64 0, .int .i64 0, .slice none 0 0]) ?_ 0 _ rfl; exact BK807.out) Try.underlying28 rfl (by kernel_rfl)) rfl ?_
 exact ⟨_, by rfl, by exact Kd.N_mono (Kd.N_far (p := ⟨gb807, 3, none⟩) (Kd.N_far (p := ⟨gb807, 2, none⟩) (Kd.N_far (p := ⟨gb807, 1, none⟩) (Kd.N_far (p := ⟨gb807, 0, none⟩) (Kd.N_mono HO814.out (fun k_ hk => (⟨hk, hk.2.1⟩ : _ ∧ k_ ≠ gb807))) (fun _ hk => hk.2) (.int .i64 t809)) (fun _ hk => hk.2) (.int .i64 t810)) (fun _ hk => hk.2) (.int .i64 t811)) (fun _ hk => hk.2) (.slice Ao10 t812.length co10)) (fun _ hk => hk.1.1), by repeat ((with_reducible first | exact HB.out | refine below_set ?_ GE807.out))⟩

/-! ### canopyref5_deep: function 31 -/
mutual
def canopyref5_deep.l0 : Nat → Int → Int → Int → Int → Int → List (S28) → Option (Int)
 | 0, _, _, _, _, _, _ => none
 | k + 1, x3, x4, x817000, x817001, x817002, x817003 => if x4 < (x817003.length : Int) then (if 0 ≤ x4 then ((canopyref5_deep.f k ((rd_T28 x817003 x4).f0) ((rd_T28 x817003 x4).f1) ((rd_T28 x817003 x4).f2) ((rd_T28 x817003 x4).f3)).bind fun t818 => (canopyref5_deep.l0 k (mx x3 t818) (wrap64 (x4 + 1)) x817000 x817001 x817002 x817003)) else (none)) else (some (wrap64 (x3 + 1)))
def canopyref5_deep.f : Nat → Int → Int → Int → List (S28) → Option (Int)
 | 0, _, _, _, _ => none
 | k + 1, a0_0, a0_1, a0_2, l0_3 => canopyref5_deep.l0 k 0 0 a0_0 a0_1 a0_2 l0_3
end
theorem canopyref5_deep.mono_l : ∀ k, (∀ y0 y1 y2 y3, LeO (canopyref5_deep.f k y0 y1 y2 y3) (canopyref5_deep.f (k + 1) y0 y1 y2 y3)) ∧ (∀ y0 y1 y2 y3 y4 y5, LeO (canopyref5_deep.l0 k y0 y1 y2 y3 y4 y5) (canopyref5_deep.l0 (k + 1) y0 y1 y2 y3 y4 y5))
 | 0 => ⟨fun _ _ _ _ r h => by simp [canopyref5_deep.f] at h, fun _ _ _ _ _ _ r h => by simp [canopyref5_deep.l0] at h⟩
 | k + 1 => by
  obtain ⟨ih0, ih1⟩ := canopyref5_deep.mono_l k
  refine ⟨?_, ?_⟩
  ·intro y0 y1 y2 y3
   unfold canopyref5_deep.f
   repeat' first
   | (with_reducible exact ih1 _ _ _ _ _ _)
  ·intro y0 y1 y2 y3 y4 y5
   unfold canopyref5_deep.l0
   repeat' first
   | (with_reducible exact ih0 _ _ _ _)
   | (with_reducible exact ih1 _ _ _ _ _ _)
   | (with_reducible exact LeO.refl _)
   | (with_reducible refine LeO.ite ?_ ?_)
   | (with_reducible refine LeO.bind ?_ (fun _ => ?_))
theorem canopyref5_deep.mono : ∀ a0 a1 a2 a3 k, LeO (canopyref5_deep.f k a0 a1 a2 a3) (canopyref5_deep.f (k + 1) a0 a1 a2 a3) := by
 intro a0 a1 a2 a3 k
 obtain ⟨ih0, ih1⟩ := canopyref5_deep.mono_l k
 exact ih0 a0 a1 a2 a3
set_option maxHeartbeats 8000000 in
set_option maxRecDepth 100000 in
theorem canopyref5_deep.calls (k : Nat) : ∀ (a0_0 : Int) (a0_1 : Int) (a0_2 : Int) (A0_3 : Option Addr) (c0_3 : Nat) (l0_3 : List (S28)) (r : Int) (w : World) (hr0_3 : Kd.C k28 w A0_3 l0_3.length l0_3) (hc0_3 : l0_3.length ≤ c0_3) (h : canopyref5_deep.f k a0_0 a0_1 a0_2 l0_3 = some r),
  Calls Try.prog 31 #[.agg #[.int .i64 a0_0, .int .i64 a0_1, .int .i64 a0_2, .slice A0_3 l0_3.length c0_3]] w fun e w' => e = .returned (.int .i64 r) ∧ Below w.heap.size w w' := by
 induction k using Nat.strongRecOn with
 | _ k ih =>
 intro a0_0 a0_1 a0_2 A0_3 c0_3 l0_3 r w hr0_3 hc0_3 h
 cases k with
 | zero => exact absurd h (by simp [canopyref5_deep.f])
 | succ k =>
 simp only [canopyref5_deep.f] at h
 have HR0_3 := M0 hr0_3
 clear hr0_3 hc0_3
 have HB := M0 (Below.refl w.heap.size w)
 have H : (canopyref5_deep.l0 k 0 0 a0_0 a0_1 a0_2 l0_3) = some r := h
 clear h
 have H' := M0 H
 clear H
 go_enter Try.func31, Try.ntmps31
 go_wp2_with (((with_reducible refine gate_dst (N := 1) rfl ?_); refine box_event ?hg (N := 1) ?hd (cs := #[.int .i64 a0_0, .int .i64 a0_1, .int .i64 a0_2, .slice A0_3 l0_3.length c0_3]) (t := 28) ?hr ?_; (case hd => rfl); (case hg => rfl); (case hr => (go_simp; done)); intro gb816 hg w2 hbox hb; have BK816 := M0 hbox; replace HB := M0 (below_step HB.out hb); clear hb hbox hg))
 go_loopg [3, 4] k (fun kq v3 v4 w' => ∃ (x3_1 : Int) (x4_1 : Int), v3 = .int .i64 x3_1 ∧ v4 = .int .i64 x4_1 ∧ Aside0 (canopyref5_deep.l0 kq x3_1 x4_1 a0_0 a0_1 a0_2 l0_3 = some r) ∧ Aside0 (kq ≤ k) ∧ Aside0 (w'.heap[gb816]? = some (.cells #[.int .i64 a0_0, .int .i64 a0_1, .int .i64 a0_2, (.slice A0_3 l0_3.length c0_3)] 28 (0, 0))) ∧ Aside0 (Below w.heap.size w w'))
 case atStart => exact ⟨(0), (0), (by rfl), (by rfl), H', ⟨Nat.le_refl _⟩, ⟨by exact BK816.out⟩, ⟨by with_reducible exact HB.out⟩⟩
 case round =>
  clear H'
  obtain ⟨x3_1, x4_1, rfl, rfl, HA, HK1, BK816, HB⟩ := hrel
  cases gk with
  | zero => exact absurd HA.out (by simp [canopyref5_deep.l0])
  | succ k1 =>
   have H := HA.out
   clear HA
   simp only [canopyref5_deep.l0] at H
   by_cases c3 : x4_1 < (l0_3.length : Int)
   ·rw [if_pos c3] at H
    have c3b0 := decide_eq_true c3
    clear c3
    by_cases c4 : 0 ≤ x4_1
    ·rw [if_pos c4] at H
     have c4b0 := decide_eq_true c4
     clear c4
     replace H := Option.bind_eq_some_iff.mp H
     obtain ⟨t818, A50, H⟩ := H
     try dsimp only at H
     have A5 := M0 A50
     clear A50
     obtain ⟨ji6, hji6⟩ : ∃ j_ : Int, (mx x3_1 t818) = j_ := ⟨_, rfl⟩
     replace H : (canopyref5_deep.l0 k1 ji6 (wrap64 (x4_1 + 1)) a0_0 a0_1 a0_2 l0_3) = some r := by (rw [hji6] at H; exact H)
     (skip)
     have hji6_ : (if x3_1 < t818 then t818 else x3_1) = ji6 := hji6
     have H' := M0 H
     clear H
     obtain ⟨_, _, _, _, _, _, _, _⟩ := cells4 BK816.out
     have p817 : 0 ≤ (x4_1 : Int) := of_decide_eq_true (by (with_reducible assumption))
     have q817 : x4_1 < (l0_3.length : Int) := of_decide_eq_true (by (with_reducible assumption))
     obtain ⟨ad817, A817_3, c817_3, e817, hx817_0, hx817_1, hx817_2, hx817_3, hl817_3, hi817_3⟩ := at_T28 HR0_3.out x4_1 p817 q817
     cases e817
     replace hx817_0 := (HB.out.cell (World.block_lt_of_cell? w _ hx817_0)).trans hx817_0
     replace hx817_1 := (HB.out.cell (World.block_lt_of_cell? w _ hx817_1)).trans hx817_1
     replace hx817_2 := (HB.out.cell (World.block_lt_of_cell? w _ hx817_2)).trans hx817_2
     replace hx817_3 := (HB.out.cell (World.block_lt_of_cell? w _ hx817_3)).trans hx817_3
     have HR817_3 := M0 hi817_3
     have HC817_3 := M0 hl817_3
     clear hi817_3 hl817_3
     replace p817 := eq_true p817
     replace q817 := eq_true q817
     go_wp2_with (((with_reducible refine gate_callee (f := 31) rfl ?_); refine goesL_ (some 18) rfl rfl Try.func31 (by kernel_rfl) rfl #[.agg #[.int .i64 ((rd_T28 l0_3 x4_1).f0), .int .i64 ((rd_T28 l0_3 x4_1).f1), .int .i64 ((rd_T28 l0_3 x4_1).f2), .slice A817_3 ((rd_T28 l0_3 x4_1).f3).length c817_3]] rfl (by (simp only [List.map_toArray, List.map_cons, List.map_nil]); rfl) ?_; (with_reducible refine (ih k1 (by have := HK1.out; omega) ((rd_T28 l0_3 x4_1).f0) ((rd_T28 l0_3 x4_1).f1) ((rd_T28 l0_3 x4_1).f2) _ _ ((rd_T28 l0_3 x4_1).f3) t818 _ ?side1 ?side2 A5.out).mono ?_); (case side1 => repeat (exact (Kd.C_below HR817_3.out HB.out))); (case side2 => exact HC817_3.out); rintro e w8 ⟨rfl, hb⟩; refine ⟨_, rfl, ?_⟩; replace BK816 := M0 (blk_below BK816.out hb); replace HB := M0 (below_step HB.out hb); clear hb))
     go_roundg k1
     case measure => have := HK1.out; omega
     case rel => exact ⟨(ji6), (wrap64 (x4_1 + 1)), (by rfl), (by rfl), (by exact H'), ⟨by have := HK1.out; omega⟩, ⟨by exact BK816.out⟩, ⟨by with_reducible exact HB.out⟩⟩
    ·rw [if_neg c4] at H
     exact absurd H (by simp)
   ·rw [if_neg c3] at H
    have c3b0 := decide_eq_false c3
    clear c3
    obtain rfl := Option.some.inj H
    obtain ⟨_, _, _, _, _, _, _, _⟩ := cells4 BK816.out
    go_wp2
    go_ret
    exact ⟨by rfl, by with_reducible exact HB.out⟩

/-! ### canopyref5_size: function 32 -/
mutual
def canopyref5_size.l0 : Nat → Int → Int → Int → Int → Int → List (S28) → Option (Int)
 | 0, _, _, _, _, _, _ => none
 | k + 1, x3, x4, x820000, x820001, x820002, x820003 => if x4 < (x820003.length : Int) then (if 0 ≤ x4 then ((canopyref5_size.f k ((rd_T28 x820003 x4).f0) ((rd_T28 x820003 x4).f1) ((rd_T28 x820003 x4).f2) ((rd_T28 x820003 x4).f3)).bind fun t821 => (canopyref5_size.l0 k (wrap64 (x3 + t821)) (wrap64 (x4 + 1)) x820000 x820001 x820002 x820003)) else (none)) else (some x3)
def canopyref5_size.f : Nat → Int → Int → Int → List (S28) → Option (Int)
 | 0, _, _, _, _ => none
 | k + 1, a0_0, a0_1, a0_2, l0_3 => canopyref5_size.l0 k 1 0 a0_0 a0_1 a0_2 l0_3
end
theorem canopyref5_size.mono_l : ∀ k, (∀ y0 y1 y2 y3, LeO (canopyref5_size.f k y0 y1 y2 y3) (canopyref5_size.f (k + 1) y0 y1 y2 y3)) ∧ (∀ y0 y1 y2 y3 y4 y5, LeO (canopyref5_size.l0 k y0 y1 y2 y3 y4 y5) (canopyref5_size.l0 (k + 1) y0 y1 y2 y3 y4 y5))
 | 0 => ⟨fun _ _ _ _ r h => by simp [canopyref5_size.f] at h, fun _ _ _ _ _ _ r h => by simp [canopyref5_size.l0] at h⟩
 | k + 1 => by
  obtain ⟨ih0, ih1⟩ := canopyref5_size.mono_l k
  refine ⟨?_, ?_⟩
  ·intro y0 y1 y2 y3
   unfold canopyref5_size.f
   repeat' first
   | (with_reducible exact ih1 _ _ _ _ _ _)
  ·intro y0 y1 y2 y3 y4 y5
   unfold canopyref5_size.l0
   repeat' first
   | (with_reducible exact ih0 _ _ _ _)
   | (with_reducible exact ih1 _ _ _ _ _ _)
   | (with_reducible exact LeO.refl _)
   | (with_reducible refine LeO.ite ?_ ?_)
   | (with_reducible refine LeO.bind ?_ (fun _ => ?_))
theorem canopyref5_size.mono : ∀ a0 a1 a2 a3 k, LeO (canopyref5_size.f k a0 a1 a2 a3) (canopyref5_size.f (k + 1) a0 a1 a2 a3) := by
 intro a0 a1 a2 a3 k
 obtain ⟨ih0, ih1⟩ := canopyref5_size.mono_l k
 exact ih0 a0 a1 a2 a3
set_option maxHeartbeats 8000000 in
set_option maxRecDepth 100000 in
theorem canopyref5_size.calls (k : Nat) : ∀ (a0_0 : Int) (a0_1 : Int) (a0_2 : Int) (A0_3 : Option Addr) (c0_3 : Nat) (l0_3 : List (S28)) (r : Int) (w : World) (hr0_3 : Kd.C k28 w A0_3 l0_3.length l0_3) (hc0_3 : l0_3.length ≤ c0_3) (h : canopyref5_size.f k a0_0 a0_1 a0_2 l0_3 = some r),
  Calls Try.prog 32 #[.agg #[.int .i64 a0_0, .int .i64 a0_1, .int .i64 a0_2, .slice A0_3 l0_3.length c0_3]] w fun e w' => e = .returned (.int .i64 r) ∧ Below w.heap.size w w' := by
 induction k using Nat.strongRecOn with
 | _ k ih =>
 intro a0_0 a0_1 a0_2 A0_3 c0_3 l0_3 r w hr0_3 hc0_3 h
 cases k with
 | zero => exact absurd h (by simp [canopyref5_size.f])
 | succ k =>
 simp only [canopyref5_size.f] at h
 have HR0_3 := M0 hr0_3
 clear hr0_3 hc0_3
 have HB := M0 (Below.refl w.heap.size w)
 have H : (canopyref5_size.l0 k 1 0 a0_0 a0_1 a0_2 l0_3) = some r := h
 clear h
 have H' := M0 H
 clear H
 go_enter Try.func32, Try.ntmps32
 go_wp2_with (((with_reducible refine gate_dst (N := 1) rfl ?_); refine box_event ?hg (N := 1) ?hd (cs := #[.int .i64 a0_0, .int .i64 a0_1, .int .i64 a0_2, .slice A0_3 l0_3.length c0_3]) (t := 28) ?hr ?_; (case hd => rfl); (case hg => rfl); (case hr => (go_simp; done)); intro gb819 hg w2 hbox hb; have BK819 := M0 hbox; replace HB := M0 (below_step HB.out hb); clear hb hbox hg))
 go_loopg [3, 4] k (fun kq v3 v4 w' => ∃ (x3_1 : Int) (x4_1 : Int), v3 = .int .i64 x3_1 ∧ v4 = .int .i64 x4_1 ∧ Aside0 (canopyref5_size.l0 kq x3_1 x4_1 a0_0 a0_1 a0_2 l0_3 = some r) ∧ Aside0 (kq ≤ k) ∧ Aside0 (w'.heap[gb819]? = some (.cells #[.int .i64 a0_0, .int .i64 a0_1, .int .i64 a0_2, (.slice A0_3 l0_3.length c0_3)] 28 (0, 0))) ∧ Aside0 (Below w.heap.size w w'))
 case atStart => exact ⟨(1), (0), (by rfl), (by rfl), H', ⟨Nat.le_refl _⟩, ⟨by exact BK819.out⟩, ⟨by with_reducible exact HB.out⟩⟩
 case round =>
  clear H'
  obtain ⟨x3_1, x4_1, rfl, rfl, HA, HK1, BK819, HB⟩ := hrel
  cases gk with
  | zero => exact absurd HA.out (by simp [canopyref5_size.l0])
  | succ k1 =>
   have H := HA.out
   clear HA
   simp only [canopyref5_size.l0] at H
   by_cases c3 : x4_1 < (l0_3.length : Int)
   ·rw [if_pos c3] at H
    have c3b0 := decide_eq_true c3
    clear c3
    by_cases c4 : 0 ≤ x4_1
    ·rw [if_pos c4] at H
     have c4b0 := decide_eq_true c4
     clear c4
     replace H := Option.bind_eq_some_iff.mp H
     obtain ⟨t821, A50, H⟩ := H
     try dsimp only at H
     have A5 := M0 A50
     clear A50
     have H' := M0 H
     clear H
     obtain ⟨_, _, _, _, _, _, _, _⟩ := cells4 BK819.out
     have p820 : 0 ≤ (x4_1 : Int) := of_decide_eq_true (by (with_reducible assumption))
     have q820 : x4_1 < (l0_3.length : Int) := of_decide_eq_true (by (with_reducible assumption))
     obtain ⟨ad820, A820_3, c820_3, e820, hx820_0, hx820_1, hx820_2, hx820_3, hl820_3, hi820_3⟩ := at_T28 HR0_3.out x4_1 p820 q820
     cases e820
     replace hx820_0 := (HB.out.cell (World.block_lt_of_cell? w _ hx820_0)).trans hx820_0
     replace hx820_1 := (HB.out.cell (World.block_lt_of_cell? w _ hx820_1)).trans hx820_1
     replace hx820_2 := (HB.out.cell (World.block_lt_of_cell? w _ hx820_2)).trans hx820_2
     replace hx820_3 := (HB.out.cell (World.block_lt_of_cell? w _ hx820_3)).trans hx820_3
     have HR820_3 := M0 hi820_3
     have HC820_3 := M0 hl820_3
     clear hi820_3 hl820_3
     replace p820 := eq_true p820
     replace q820 := eq_true q820
     go_wp2_with (((with_reducible refine gate_callee (f := 32) rfl ?_); refine goesL_ (some 18) rfl rfl Try.func32 (by kernel_rfl) rfl #[.agg #[.int .i64 ((rd_T28 l0_3 x4_1).f0), .int .i64 ((rd_T28 l0_3 x4_1).f1), .int .i64 ((rd_T28 l0_3 x4_1).f2), .slice A820_3 ((rd_T28 l0_3 x4_1).f3).length c820_3]] rfl (by (simp only [List.map_toArray, List.map_cons, List.map_nil]); rfl) ?_; (with_reducible refine (ih k1 (by have := HK1.out; omega) ((rd_T28 l0_3 x4_1).f0) ((rd_T28 l0_3 x4_1).f1) ((rd_T28 l0_3 x4_1).f2) _ _ ((rd_T28 l0_3 x4_1).f3) t821 _ ?side1 ?side2 A5.out).mono ?_); (case side1 => repeat (exact (Kd.C_below HR820_3.out HB.out))); (case side2 => exact HC820_3.out); rintro e w7 ⟨rfl, hb⟩; refine ⟨_, rfl, ?_⟩; replace BK819 := M0 (blk_below BK819.out hb); replace HB := M0 (below_step HB.out hb); clear hb))
     go_roundg k1
     case measure => have := HK1.out; omega
     case rel => exact ⟨(wrap64 (x3_1 + t821)), (wrap64 (x4_1 + 1)), (by rfl), (by rfl), H', ⟨by have := HK1.out; omega⟩, ⟨by exact BK819.out⟩, ⟨by with_reducible exact HB.out⟩⟩
    ·rw [if_neg c4] at H
     exact absurd H (by simp)
   ·rw [if_neg c3] at H
    have c3b0 := decide_eq_false c3
    clear c3
    obtain rfl := Option.some.inj H
    obtain ⟨_, _, _, _, _, _, _, _⟩ := cells4 BK819.out
    go_wp2
    go_ret
    exact ⟨by rfl, by with_reducible exact HB.out⟩

/-! ### canopyref5_formed: function 33 -/
mutual
def canopyref5_formed.j1 : Nat → Bool → Int → Int → Int → List (S28) → Option (Bool)
 | 0, _, _, _, _, _ => none
 | k + 1, x3, x823000, x823001, x823002, x823003 => canopyref5_formed.l0 k x3 0 x823000 x823001 x823002 x823003
def canopyref5_formed.l0 : Nat → Bool → Int → Int → Int → Int → List (S28) → Option (Bool)
 | 0, _, _, _, _, _, _ => none
 | k + 1, x3, x4, x823000, x823001, x823002, x823003 => if x4 < (x823003.length : Int) then (if x3 = true then (if 0 ≤ x4 then ((canopyref5_formed.f k ((rd_T28 x823003 x4).f0) ((rd_T28 x823003 x4).f1) ((rd_T28 x823003 x4).f2) ((rd_T28 x823003 x4).f3)).bind fun t824 => (canopyref5_formed.l0 k t824 (wrap64 (x4 + 1)) x823000 x823001 x823002 x823003)) else (none)) else (some x3)) else (some x3)
def canopyref5_formed.j0 : Nat → Bool → Int → Bool → Int → Int → Int → List (S28) → Option (Bool)
 | 0, _, _, _, _, _, _, _ => none
 | k + 1, x3, x6, x7, x823000, x823001, x823002, x823003 => if x7 = true then (if (x823003.length : Int) = 0 then (if x823001 = 0 then (canopyref5_formed.j1 k (x823002 == 0) x823000 x823001 x823002 x823003) else (canopyref5_formed.j1 k false x823000 x823001 x823002 x823003)) else (canopyref5_formed.j1 k false x823000 x823001 x823002 x823003)) else (if x6 = 3 then (if (x823003.length : Int) = 0 then (canopyref5_formed.j1 k (x823002 == 0) x823000 x823001 x823002 x823003) else (canopyref5_formed.j1 k false x823000 x823001 x823002 x823003)) else (if x6 = 4 then (canopyref5_formed.j1 k ((x823003.length : Int) == 1) x823000 x823001 x823002 x823003) else (if x6 = 7 then (if (x823003.length : Int) = 1 then (if x823001 = 0 then (canopyref5_formed.j1 k (x823002 == 0) x823000 x823001 x823002 x823003) else (canopyref5_formed.j1 k false x823000 x823001 x823002 x823003)) else (canopyref5_formed.j1 k false x823000 x823001 x823002 x823003)) else (if x6 = 5 then (if (x823003.length : Int) > 1 then (if x823001 = 0 then (canopyref5_formed.j1 k (x823002 == 0) x823000 x823001 x823002 x823003) else (canopyref5_formed.j1 k false x823000 x823001 x823002 x823003)) else (canopyref5_formed.j1 k false x823000 x823001 x823002 x823003)) else (if x6 = 6 then (if (x823003.length : Int) > 1 then (if x823001 = 0 then (canopyref5_formed.j1 k (x823002 == 0) x823000 x823001 x823002 x823003) else (canopyref5_formed.j1 k false x823000 x823001 x823002 x823003)) else (canopyref5_formed.j1 k false x823000 x823001 x823002 x823003)) else (canopyref5_formed.j1 k x3 x823000 x823001 x823002 x823003))))))
def canopyref5_formed.f : Nat → Int → Int → Int → List (S28) → Option (Bool)
 | 0, _, _, _, _ => none
 | k + 1, a0_0, a0_1, a0_2, l0_3 => if a0_0 = 1 then (canopyref5_formed.j0 k false a0_0 (a0_0 == 1) a0_0 a0_1 a0_2 l0_3) else (canopyref5_formed.j0 k false a0_0 (a0_0 == 2) a0_0 a0_1 a0_2 l0_3)
end
theorem canopyref5_formed.mono_l : ∀ k, (∀ y0 y1 y2 y3, LeO (canopyref5_formed.f k y0 y1 y2 y3) (canopyref5_formed.f (k + 1) y0 y1 y2 y3)) ∧ (∀ y0 y1 y2 y3 y4, LeO (canopyref5_formed.j1 k y0 y1 y2 y3 y4) (canopyref5_formed.j1 (k + 1) y0 y1 y2 y3 y4)) ∧ (∀ y0 y1 y2 y3 y4 y5, LeO (canopyref5_formed.l0 k y0 y1 y2 y3 y4 y5) (canopyref5_formed.l0 (k + 1) y0 y1 y2 y3 y4 y5)) ∧ (∀ y0 y1 y2 y3 y4 y5 y6, LeO (canopyref5_formed.j0 k y0 y1 y2 y3 y4 y5 y6) (canopyref5_formed.j0 (k + 1) y0 y1 y2 y3 y4 y5 y6))
 | 0 => ⟨fun _ _ _ _ r h => by simp [canopyref5_formed.f] at h, fun _ _ _ _ _ r h => by simp [canopyref5_formed.j1] at h, fun _ _ _ _ _ _ r h => by simp [canopyref5_formed.l0] at h, fun _ _ _ _ _ _ _ r h => by simp [canopyref5_formed.j0] at h⟩
 | k + 1 => by
  obtain ⟨ih0, ih1, ih2, ih3⟩ := canopyref5_formed.mono_l k
  refine ⟨?_, ?_, ?_, ?_⟩
  ·intro y0 y1 y2 y3
   unfold canopyref5_formed.f
   repeat' first
   | (with_reducible exact ih3 _ _ _ _ _ _ _)
   | (with_reducible refine LeO.ite ?_ ?_)
  ·intro y0 y1 y2 y3 y4
   unfold canopyref5_formed.j1
   repeat' first
   | (with_reducible exact ih2 _ _ _ _ _ _)
  ·intro y0 y1 y2 y3 y4 y5
   unfold canopyref5_formed.l0
   repeat' first
   | (with_reducible exact ih0 _ _ _ _)
   | (with_reducible exact ih2 _ _ _ _ _ _)
   | (with_reducible exact LeO.refl _)
   | (with_reducible refine LeO.ite ?_ ?_)
   | (with_reducible refine LeO.bind ?_ (fun _ => ?_))
  ·intro y0 y1 y2 y3 y4 y5 y6
   unfold canopyref5_formed.j0
   repeat' first
   | (with_reducible exact ih1 _ _ _ _ _)
   | (with_reducible refine LeO.ite ?_ ?_)
theorem canopyref5_formed.mono : ∀ a0 a1 a2 a3 k, LeO (canopyref5_formed.f k a0 a1 a2 a3) (canopyref5_formed.f (k + 1) a0 a1 a2 a3) := by
 intro a0 a1 a2 a3 k
 obtain ⟨ih0, ih1, ih2, ih3⟩ := canopyref5_formed.mono_l k
 exact ih0 a0 a1 a2 a3
set_option maxHeartbeats 8000000 in
set_option maxRecDepth 100000 in
theorem canopyref5_formed.calls (k : Nat) : ∀ (a0_0 : Int) (a0_1 : Int) (a0_2 : Int) (A0_3 : Option Addr) (c0_3 : Nat) (l0_3 : List (S28)) (r : Bool) (w : World) (hr0_3 : Kd.C k28 w A0_3 l0_3.length l0_3) (hc0_3 : l0_3.length ≤ c0_3) (h : canopyref5_formed.f k a0_0 a0_1 a0_2 l0_3 = some r),
  Calls Try.prog 33 #[.agg #[.int .i64 a0_0, .int .i64 a0_1, .int .i64 a0_2, .slice A0_3 l0_3.length c0_3]] w fun e w' => e = .returned (.bool r) ∧ Below w.heap.size w w' := by
 induction k using Nat.strongRecOn with
 | _ k ih =>
 intro a0_0 a0_1 a0_2 A0_3 c0_3 l0_3 r w hr0_3 hc0_3 h
 cases k with
 | zero => exact absurd h (by simp [canopyref5_formed.f])
 | succ k =>
 simp only [canopyref5_formed.f] at h
 have HR0_3 := M0 hr0_3
 clear hr0_3 hc0_3
 have HB := M0 (Below.refl w.heap.size w)
 have H : (if a0_0 = 1 then (canopyref5_formed.j0 k false a0_0 (a0_0 == 1) a0_0 a0_1 a0_2 l0_3) else (canopyref5_formed.j0 k false a0_0 (a0_0 == 2) a0_0 a0_1 a0_2 l0_3)) = some r := h
 clear h
 have HC2 := M0 H
 clear H
 go_enter Try.func33, Try.ntmps33
 go_upto_block 0 with (((with_reducible refine gate_dst (N := 1) rfl ?_); refine box_event ?hg (N := 1) ?hd (cs := #[.int .i64 a0_0, .int .i64 a0_1, .int .i64 a0_2, .slice A0_3 l0_3.length c0_3]) (t := 28) ?hr ?_; (case hd => rfl); (case hg => rfl); (case hr => (go_simp; done)); intro gb822 hg w3 hbox hb; have BK822 := M0 hbox; replace HB := M0 (below_step HB.out hb); clear hb hbox hg; obtain ⟨hcz4_0, hcz4_1, hcz4_2, hcz4_3, hfz4_0, hfz4_1, hfz4_2, hfz4_3⟩ := cells4 BK822.out))
 (skip)
 go_cut [3] (fun v3 wc => ∃ (kq : Nat) (x3_1 : Bool), v3 = .bool x3_1 ∧ Aside0 (canopyref5_formed.j1 kq x3_1 a0_0 a0_1 a0_2 l0_3 = some r) ∧ Aside0 (kq ≤ k) ∧ Aside0 (wc.heap[gb822]? = some (.cells #[.int .i64 a0_0, .int .i64 a0_1, .int .i64 a0_2, (.slice A0_3 l0_3.length c0_3)] 28 (0, 0))) ∧ Aside0 (Below w.heap.size w wc))
 case first =>
  have H := HC2.out
  clear HC2
  have HC5 := M0 H
  clear H
  go_upto_if 7 with (fail)
  go_cut [7] (fun v7 wc => ∃ (kq : Nat) (x7_4 : Bool), v7 = .bool x7_4 ∧ Aside0 (canopyref5_formed.j0 kq false a0_0 x7_4 a0_0 a0_1 a0_2 l0_3 = some r) ∧ Aside0 (kq ≤ k) ∧ Aside0 (wc.heap[gb822]? = some (.cells #[.int .i64 a0_0, .int .i64 a0_1, .int .i64 a0_2, (.slice A0_3 l0_3.length c0_3)] 28 (0, 0))) ∧ Aside0 (Below w.heap.size w wc))
  case first =>
   have H := HC5.out
   clear HC5
   by_cases c6 : a0_0 = 1
   ·rw [if_pos c6] at H
    have c6b0 := bT c6
    clear c6
    (rw [c6b0])
    have H' := M0 H
    clear H
    go_wp2
    go_meet
    case rel => exact ⟨_, ((a0_0 == 1)), (by (simp [*]; done)), H', ⟨by omega⟩, ⟨by exact BK822.out⟩, ⟨by with_reducible exact HB.out⟩⟩
   ·rw [if_neg c6] at H
    have c6b0 := bF c6
    (rw [c6b0])
    have H' := M0 H
    clear H
    go_wp2
    go_meet
    case rel => exact ⟨_, ((a0_0 == 2)), (by rfl), H', ⟨by omega⟩, ⟨by exact BK822.out⟩, ⟨by with_reducible exact HB.out⟩⟩
  case rest =>
   clear HC5 hcz4_0 hcz4_1 hcz4_2 hcz4_3 hfz4_0 hfz4_1 hfz4_2 hfz4_3
   obtain ⟨kq, x7_4, rfl, HA, HJ4, BK822, HB⟩ := hcut
   cases kq with
   | zero => exact absurd HA.out (by simp [canopyref5_formed.j0])
   | succ kj4 =>
    have H := HA.out
    clear HA
    simp only [canopyref5_formed.j0] at H
    by_cases c7 : x7_4 = true
    ·subst c7
     rw [if_pos rfl] at H
     by_cases c8 : (l0_3.length : Int) = 0
     ·rw [if_pos c8] at H
      have c8b0 := bT c8
      have c8b1 := nF c8
      clear c8
      by_cases c9 : a0_1 = 0
      ·rw [if_pos c9] at H
       have c9b0 := bT c9
       clear c9
       have H' := M0 H
       clear H
       obtain ⟨_, _, _, _, _, _, _, _⟩ := cells4 BK822.out
       go_wp2
       go_meet
       case rel => exact ⟨_, ((a0_2 == 0)), (by rfl), H', ⟨by have := HJ4.out; omega⟩, ⟨by exact BK822.out⟩, ⟨by with_reducible exact HB.out⟩⟩
      ·rw [if_neg c9] at H
       have c9b0 := bF c9
       have H' := M0 H
       clear H
       obtain ⟨_, _, _, _, _, _, _, _⟩ := cells4 BK822.out
       go_wp2
       go_meet
       case rel => exact ⟨_, (false), (by rfl), H', ⟨by have := HJ4.out; omega⟩, ⟨by exact BK822.out⟩, ⟨by with_reducible exact HB.out⟩⟩
     ·rw [if_neg c8] at H
      have c8b0 := bF c8
      have H' := M0 H
      clear H
      obtain ⟨_, _, _, _, _, _, _, _⟩ := cells4 BK822.out
      go_wp2
      go_meet
      case rel => exact ⟨_, (false), (by rfl), H', ⟨by have := HJ4.out; omega⟩, ⟨by exact BK822.out⟩, ⟨by with_reducible exact HB.out⟩⟩
    ·replace c7 := Bool.eq_false_iff.mpr c7
     subst c7
     rw [if_neg (show ¬ (false = true) by decide)] at H
     by_cases c13 : a0_0 = 3
     ·rw [if_pos c13] at H
      have c13b0 := bT c13
      have c13b1 := nF c13
      clear c13
      by_cases c14 : (l0_3.length : Int) = 0
      ·rw [if_pos c14] at H
       have c14b0 := bT c14
       clear c14
       have H' := M0 H
       clear H
       obtain ⟨_, _, _, _, _, _, _, _⟩ := cells4 BK822.out
       go_wp2
       go_meet
       case rel => exact ⟨_, ((a0_2 == 0)), (by rfl), H', ⟨by have := HJ4.out; omega⟩, ⟨by exact BK822.out⟩, ⟨by with_reducible exact HB.out⟩⟩
      ·rw [if_neg c14] at H
       have c14b0 := bF c14
       have H' := M0 H
       clear H
       obtain ⟨_, _, _, _, _, _, _, _⟩ := cells4 BK822.out
       go_wp2
       go_meet
       case rel => exact ⟨_, (false), (by rfl), H', ⟨by have := HJ4.out; omega⟩, ⟨by exact BK822.out⟩, ⟨by with_reducible exact HB.out⟩⟩
     ·rw [if_neg c13] at H
      have c13b0 := bF c13
      have c13b1 := nT c13
      by_cases c17 : a0_0 = 4
      ·rw [if_pos c17] at H
       have c17b0 := bT c17
       clear c17
       have H' := M0 H
       clear H
       obtain ⟨_, _, _, _, _, _, _, _⟩ := cells4 BK822.out
       go_wp2
       go_meet
       case rel => exact ⟨_, (((l0_3.length : Int) == 1)), (by rfl), H', ⟨by have := HJ4.out; omega⟩, ⟨by exact BK822.out⟩, ⟨by with_reducible exact HB.out⟩⟩
      ·rw [if_neg c17] at H
       have c17b0 := bF c17
       have c17b1 := nT c17
       by_cases c19 : a0_0 = 7
       ·rw [if_pos c19] at H
        have c19b0 := bT c19
        have c19b1 := nF c19
        clear c19
        by_cases c20 : (l0_3.length : Int) = 1
        ·rw [if_pos c20] at H
         have c20b0 := bT c20
         have c20b1 := nF c20
         clear c20
         by_cases c21 : a0_1 = 0
         ·rw [if_pos c21] at H
          have c21b0 := bT c21
          clear c21
          have H' := M0 H
          clear H
          obtain ⟨_, _, _, _, _, _, _, _⟩ := cells4 BK822.out
          go_wp2
          go_meet
          case rel => exact ⟨_, ((a0_2 == 0)), (by rfl), H', ⟨by have := HJ4.out; omega⟩, ⟨by exact BK822.out⟩, ⟨by with_reducible exact HB.out⟩⟩
         ·rw [if_neg c21] at H
          have c21b0 := bF c21
          have H' := M0 H
          clear H
          obtain ⟨_, _, _, _, _, _, _, _⟩ := cells4 BK822.out
          go_wp2
          go_meet
          case rel => exact ⟨_, (false), (by rfl), H', ⟨by have := HJ4.out; omega⟩, ⟨by exact BK822.out⟩, ⟨by with_reducible exact HB.out⟩⟩
        ·rw [if_neg c20] at H
         have c20b0 := bF c20
         have H' := M0 H
         clear H
         obtain ⟨_, _, _, _, _, _, _, _⟩ := cells4 BK822.out
         go_wp2
         go_meet
         case rel => exact ⟨_, (false), (by rfl), H', ⟨by have := HJ4.out; omega⟩, ⟨by exact BK822.out⟩, ⟨by with_reducible exact HB.out⟩⟩
       ·rw [if_neg c19] at H
        have c19b0 := bF c19
        have c19b1 := nT c19
        by_cases c25 : a0_0 = 5
        ·rw [if_pos c25] at H
         have c25b0 := bT c25
         have c25b1 := nF c25
         clear c25
         by_cases c26 : (l0_3.length : Int) > 1
         ·rw [if_pos c26] at H
          have c26b0 : decide (1 < (l0_3.length : Int)) = true := decide_eq_true c26
          have c26b1 : decide (1 < l0_3.length) = true := decide_eq_true (by omega)
          clear c26
          by_cases c27 : a0_1 = 0
          ·rw [if_pos c27] at H
           have c27b0 := bT c27
           clear c27
           have H' := M0 H
           clear H
           obtain ⟨_, _, _, _, _, _, _, _⟩ := cells4 BK822.out
           go_wp2
           go_meet
           case rel => exact ⟨_, ((a0_2 == 0)), (by rfl), H', ⟨by have := HJ4.out; omega⟩, ⟨by exact BK822.out⟩, ⟨by with_reducible exact HB.out⟩⟩
          ·rw [if_neg c27] at H
           have c27b0 := bF c27
           have H' := M0 H
           clear H
           obtain ⟨_, _, _, _, _, _, _, _⟩ := cells4 BK822.out
           go_wp2
           go_meet
           case rel => exact ⟨_, (false), (by rfl), H', ⟨by have := HJ4.out; omega⟩, ⟨by exact BK822.out⟩, ⟨by with_reducible exact HB.out⟩⟩
         ·rw [if_neg c26] at H
          have c26b0 : decide (1 < (l0_3.length : Int)) = false := decide_eq_false c26
          clear c26
          have H' := M0 H
          clear H
          obtain ⟨_, _, _, _, _, _, _, _⟩ := cells4 BK822.out
          go_wp2
          go_meet
          case rel => exact ⟨_, (false), (by rfl), H', ⟨by have := HJ4.out; omega⟩, ⟨by exact BK822.out⟩, ⟨by with_reducible exact HB.out⟩⟩
        ·rw [if_neg c25] at H
         have c25b0 := bF c25
         have c25b1 := nT c25
         by_cases c31 : a0_0 = 6
         ·rw [if_pos c31] at H
          have c31b0 := bT c31
          have c31b1 := nF c31
          clear c31
          by_cases c32 : (l0_3.length : Int) > 1
          ·rw [if_pos c32] at H
           have c32b0 : decide (1 < (l0_3.length : Int)) = true := decide_eq_true c32
           have c32b1 : decide (1 < l0_3.length) = true := decide_eq_true (by omega)
           clear c32
           by_cases c33 : a0_1 = 0
           ·rw [if_pos c33] at H
            have c33b0 := bT c33
            clear c33
            have H' := M0 H
            clear H
            obtain ⟨_, _, _, _, _, _, _, _⟩ := cells4 BK822.out
            go_wp2
            go_meet
            case rel => exact ⟨_, ((a0_2 == 0)), (by rfl), H', ⟨by have := HJ4.out; omega⟩, ⟨by exact BK822.out⟩, ⟨by with_reducible exact HB.out⟩⟩
           ·rw [if_neg c33] at H
            have c33b0 := bF c33
            have H' := M0 H
            clear H
            obtain ⟨_, _, _, _, _, _, _, _⟩ := cells4 BK822.out
            go_wp2
            go_meet
            case rel => exact ⟨_, (false), (by rfl), H', ⟨by have := HJ4.out; omega⟩, ⟨by exact BK822.out⟩, ⟨by with_reducible exact HB.out⟩⟩
          ·rw [if_neg c32] at H
           have c32b0 : decide (1 < (l0_3.length : Int)) = false := decide_eq_false c32
           clear c32
           have H' := M0 H
           clear H
           obtain ⟨_, _, _, _, _, _, _, _⟩ := cells4 BK822.out
           go_wp2
           go_meet
           case rel => exact ⟨_, (false), (by rfl), H', ⟨by have := HJ4.out; omega⟩, ⟨by exact BK822.out⟩, ⟨by with_reducible exact HB.out⟩⟩
         ·rw [if_neg c31] at H
          have c31b0 := bF c31
          have H' := M0 H
          clear H
          go_wp2
          go_meet
          case rel => exact ⟨_, (false), (by rfl), H', ⟨by have := HJ4.out; omega⟩, ⟨by exact BK822.out⟩, ⟨by with_reducible exact HB.out⟩⟩
 case rest =>
  clear HC2 hcz4_0 hcz4_1 hcz4_2 hcz4_3 hfz4_0 hfz4_1 hfz4_2 hfz4_3
  obtain ⟨kq, x3_1, rfl, HA, HJ1, BK822, HB⟩ := hcut
  cases kq with
  | zero => exact absurd HA.out (by simp [canopyref5_formed.j1])
  | succ kj1 =>
   have H := HA.out
   clear HA
   simp only [canopyref5_formed.j1] at H
   have H' := M0 H
   clear H
   go_wp2
   go_loopg [3, 4] kj1 (fun kq v3 v4 w' => ∃ (x3_2 : Bool) (x4_2 : Int), v3 = .bool x3_2 ∧ v4 = .int .i64 x4_2 ∧ Aside0 (canopyref5_formed.l0 kq x3_2 x4_2 a0_0 a0_1 a0_2 l0_3 = some r) ∧ Aside0 (kq ≤ kj1) ∧ Aside0 (w'.heap[gb822]? = some (.cells #[.int .i64 a0_0, .int .i64 a0_1, .int .i64 a0_2, (.slice A0_3 l0_3.length c0_3)] 28 (0, 0))) ∧ Aside0 (Below w.heap.size w w'))
   case atStart => exact ⟨(x3_1), (0), (by rfl), (by rfl), H', ⟨Nat.le_refl _⟩, ⟨by exact BK822.out⟩, ⟨by with_reducible exact HB.out⟩⟩
   case round =>
    clear H'
    obtain ⟨x3_2, x4_2, rfl, rfl, HA, HK2, BK822, HB⟩ := hrel
    cases gk with
    | zero => exact absurd HA.out (by simp [canopyref5_formed.l0])
    | succ k2 =>
     have H := HA.out
     clear HA
     simp only [canopyref5_formed.l0] at H
     by_cases c37 : x4_2 < (l0_3.length : Int)
     ·rw [if_pos c37] at H
      have c37b0 := decide_eq_true c37
      clear c37
      by_cases c38 : x3_2 = true
      ·subst c38
       rw [if_pos rfl] at H
       by_cases c39 : 0 ≤ x4_2
       ·rw [if_pos c39] at H
        have c39b0 := decide_eq_true c39
        clear c39
        replace H := Option.bind_eq_some_iff.mp H
        obtain ⟨t824, A400, H⟩ := H
        try dsimp only at H
        have A40 := M0 A400
        clear A400
        have H' := M0 H
        clear H
        obtain ⟨_, _, _, _, _, _, _, _⟩ := cells4 BK822.out
        have p823 : 0 ≤ (x4_2 : Int) := of_decide_eq_true (by (with_reducible assumption))
        have q823 : x4_2 < (l0_3.length : Int) := of_decide_eq_true (by (with_reducible assumption))
        obtain ⟨ad823, A823_3, c823_3, e823, hx823_0, hx823_1, hx823_2, hx823_3, hl823_3, hi823_3⟩ := at_T28 HR0_3.out x4_2 p823 q823
        cases e823
        replace hx823_0 := (HB.out.cell (World.block_lt_of_cell? w _ hx823_0)).trans hx823_0
        replace hx823_1 := (HB.out.cell (World.block_lt_of_cell? w _ hx823_1)).trans hx823_1
        replace hx823_2 := (HB.out.cell (World.block_lt_of_cell? w _ hx823_2)).trans hx823_2
        replace hx823_3 := (HB.out.cell (World.block_lt_of_cell? w _ hx823_3)).trans hx823_3
        have HR823_3 := M0 hi823_3
        have HC823_3 := M0 hl823_3
        clear hi823_3 hl823_3
        replace p823 := eq_true p823
        replace q823 := eq_true q823
        go_wp2_with (((with_reducible refine gate_callee (f := 33) rfl ?_); refine goesL_ (some 89) rfl rfl Try.func33 (by kernel_rfl) rfl #[.agg #[.int .i64 ((rd_T28 l0_3 x4_2).f0), .int .i64 ((rd_T28 l0_3 x4_2).f1), .int .i64 ((rd_T28 l0_3 x4_2).f2), .slice A823_3 ((rd_T28 l0_3 x4_2).f3).length c823_3]] rfl (by (simp only [List.map_toArray, List.map_cons, List.map_nil]); rfl) ?_; (with_reducible refine (ih k2 (by have := HJ1.out; have := HK2.out; omega) ((rd_T28 l0_3 x4_2).f0) ((rd_T28 l0_3 x4_2).f1) ((rd_T28 l0_3 x4_2).f2) _ _ ((rd_T28 l0_3 x4_2).f3) t824 _ ?side1 ?side2 A40.out).mono ?_); (case side1 => repeat (exact (Kd.C_below HR823_3.out HB.out))); (case side2 => exact HC823_3.out); rintro e w42 ⟨rfl, hb⟩; refine ⟨_, rfl, ?_⟩; replace BK822 := M0 (blk_below BK822.out hb); replace HB := M0 (below_step HB.out hb); clear hb))
        go_roundg k2
        case measure => have := HJ1.out; have := HK2.out; omega
        case rel => exact ⟨(t824), (wrap64 (x4_2 + 1)), (by rfl), (by rfl), H', ⟨by have := HJ1.out; have := HK2.out; omega⟩, ⟨by exact BK822.out⟩, ⟨by with_reducible exact HB.out⟩⟩
       ·rw [if_neg c39] at H
        exact absurd H (by simp)
      ·replace c38 := Bool.eq_false_iff.mpr c38
       subst c38
       rw [if_neg (show ¬ (false = true) by decide)] at H
       obtain rfl := Option.some.inj H
       obtain ⟨_, _, _, _, _, _, _, _⟩ := cells4 BK822.out
       go_wp2
       go_ret
       exact ⟨by rfl, by with_reducible exact HB.out⟩
     ·rw [if_neg c37] at H
      have c37b0 := decide_eq_false c37
      clear c37
      obtain rfl := Option.some.inj H
      obtain ⟨_, _, _, _, _, _, _, _⟩ := cells4 BK822.out
      go_wp2
      go_ret
      exact ⟨by rfl, by with_reducible exact HB.out⟩

/-! ### canopyref5_is: function 53 -/
def canopyref5_is.f (l0 : List (S56)) (a1 : Int) (a2 : Int) : Option (Bool) := if a1 ≥ 0 then (if a1 < (l0.length : Int) then (if a2 = 0 then (some true) else (if 0 ≤ a1 then (some (((rd_T56 l0 a1).f1) == a2)) else (none))) else (some false)) else (some false)
set_option maxHeartbeats 8000000 in
set_option maxRecDepth 100000 in
theorem canopyref5_is.calls (A0 : Option Addr) (c0 : Nat) (l0 : List (S56)) (a1 : Int) (a2 : Int) (r : Bool) (w : World) (hr0 : Kd.C k56 w A0 l0.length l0) (hc0 : l0.length ≤ c0) (h : canopyref5_is.f l0 a1 a2 = some r) :
  Calls Try.prog 53 #[.slice A0 l0.length c0, .int .i64 a1, .int .i64 a2] w fun e w' => e = .returned (.bool r) ∧ Drawn0 w w' := by
 have HR0 := M0 hr0
 clear hr0 hc0
 have H : (if a1 ≥ 0 then (if a1 < (l0.length : Int) then (if a2 = 0 then (some true) else (if 0 ≤ a1 then (some (((rd_T56 l0 a1).f1) == a2)) else (none))) else (some false)) else (some false)) = some r := h
 clear h
 by_cases c4 : a1 ≥ 0
 ·rw [if_pos c4] at H
  have c4b0 : decide (0 ≤ a1) = true := decide_eq_true c4
  clear c4
  by_cases c5 : a1 < (l0.length : Int)
  ·rw [if_pos c5] at H
   have c5b0 := decide_eq_true c5
   clear c5
   by_cases c6 : a2 = 0
   ·rw [if_pos c6] at H
    have c6b0 := bT c6
    clear c6
    obtain rfl := Option.some.inj H
    go_enter Try.func53, Try.ntmps53
    go_wp2
    go_ret
    exact ⟨by rfl, by repeat (exact Drawn0.refl _)⟩
   ·rw [if_neg c6] at H
    have c6b0 := bF c6
    have c6b1 := nT c6
    by_cases c7 : 0 ≤ a1
    ·rw [if_pos c7] at H
     have c7b0 := decide_eq_true c7
     clear c7
     obtain rfl := Option.some.inj H
     have p825 : 0 ≤ (a1 : Int) := of_decide_eq_true (by (with_reducible assumption))
     have q825 : a1 < (l0.length : Int) := of_decide_eq_true (by (with_reducible assumption))
     obtain ⟨ad825, e825, hx825_0, hx825_1⟩ := at_T56 HR0.out a1 p825 q825
     cases e825
     replace p825 := eq_true p825
     replace q825 := eq_true q825
     go_enter Try.func53, Try.ntmps53
     go_wp2
     go_ret
     exact ⟨by rfl, by repeat (exact Drawn0.refl _)⟩
    ·rw [if_neg c7] at H
     exact absurd H (by simp)
  ·rw [if_neg c5] at H
   have c5b0 := decide_eq_false c5
   clear c5
   obtain rfl := Option.some.inj H
   go_enter Try.func53, Try.ntmps53
   go_wp2
   go_ret
   exact ⟨by rfl, by repeat (exact Drawn0.refl _)⟩
 ·rw [if_neg c4] at H
  have c4b0 : decide (0 ≤ a1) = false := decide_eq_false c4
  clear c4
  obtain rfl := Option.some.inj H
  go_enter Try.func53, Try.ntmps53
  go_wp2
  go_ret
  exact ⟨by rfl, by repeat (exact Drawn0.refl _)⟩

/-! ### canopyref5_named: function 34 -/
mutual
def canopyref5_named.j0 : Nat → List (S56) → Bool → Int → Int → Int → List (S28) → Option (Bool)
 | 0, _, _, _, _, _, _ => none
 | k + 1, x0, x34, x827000, x827001, x827002, x827003 => if x34 = true then (some false) else (canopyref5_named.l0 k x0 0 x827000 x827001 x827002 x827003)
def canopyref5_named.l0 : Nat → List (S56) → Int → Int → Int → Int → List (S28) → Option (Bool)
 | 0, _, _, _, _, _, _ => none
 | k + 1, x0, x5, x827000, x827001, x827002, x827003 => if x5 < (x827003.length : Int) then (if 0 ≤ x5 then ((canopyref5_named.f k x0 ((rd_T28 x827003 x5).f0) ((rd_T28 x827003 x5).f1) ((rd_T28 x827003 x5).f2) ((rd_T28 x827003 x5).f3)).bind fun t833 => (if t833 = true then (canopyref5_named.l0 k x0 (wrap64 (x5 + 1)) x827000 x827001 x827002 x827003) else (some false))) else (none)) else (some true)
def canopyref5_named.f : Nat → List (S56) → Int → Int → Int → List (S28) → Option (Bool)
 | 0, _, _, _, _, _ => none
 | k + 1, l0, a1_0, a1_1, a1_2, l1_3 => if a1_0 = 3 then ((canopyref5_is.f l0 a1_1 0).bind fun t827 => (if t827 = true then (if a1_0 = 4 then ((canopyref5_is.f l0 a1_1 1).bind fun t828 => (if t828 = true then ((canopyref5_is.f l0 a1_2 2).bind fun t829 => (canopyref5_named.j0 k l0 (!t829) a1_0 a1_1 a1_2 l1_3)) else (canopyref5_named.j0 k l0 true a1_0 a1_1 a1_2 l1_3))) else (canopyref5_named.j0 k l0 false a1_0 a1_1 a1_2 l1_3)) else (canopyref5_named.j0 k l0 true a1_0 a1_1 a1_2 l1_3))) else (if a1_0 = 4 then ((canopyref5_is.f l0 a1_1 1).bind fun t830 => (if t830 = true then ((canopyref5_is.f l0 a1_2 2).bind fun t831 => (canopyref5_named.j0 k l0 (!t831) a1_0 a1_1 a1_2 l1_3)) else (canopyref5_named.j0 k l0 true a1_0 a1_1 a1_2 l1_3))) else (canopyref5_named.j0 k l0 false a1_0 a1_1 a1_2 l1_3))
end
theorem canopyref5_named.mono_l : ∀ k, (∀ y0 y1 y2 y3 y4, LeO (canopyref5_named.f k y0 y1 y2 y3 y4) (canopyref5_named.f (k + 1) y0 y1 y2 y3 y4)) ∧ (∀ y0 y1 y2 y3 y4 y5, LeO (canopyref5_named.j0 k y0 y1 y2 y3 y4 y5) (canopyref5_named.j0 (k + 1) y0 y1 y2 y3 y4 y5)) ∧ (∀ y0 y1 y2 y3 y4 y5, LeO (canopyref5_named.l0 k y0 y1 y2 y3 y4 y5) (canopyref5_named.l0 (k + 1) y0 y1 y2 y3 y4 y5))
 | 0 => ⟨fun _ _ _ _ _ r h => by simp [canopyref5_named.f] at h, fun _ _ _ _ _ _ r h => by simp [canopyref5_named.j0] at h, fun _ _ _ _ _ _ r h => by simp [canopyref5_named.l0] at h⟩
 | k + 1 => by
  obtain ⟨ih0, ih1, ih2⟩ := canopyref5_named.mono_l k
  refine ⟨?_, ?_, ?_⟩
  ·intro y0 y1 y2 y3 y4
   unfold canopyref5_named.f
   repeat' first
   | (with_reducible exact ih1 _ _ _ _ _ _)
   | (with_reducible exact LeO.refl _)
   | (with_reducible refine LeO.ite ?_ ?_)
   | (with_reducible refine LeO.bind ?_ (fun _ => ?_))
  ·intro y0 y1 y2 y3 y4 y5
   unfold canopyref5_named.j0
   repeat' first
   | (with_reducible exact ih2 _ _ _ _ _ _)
   | (with_reducible exact LeO.refl _)
   | (with_reducible refine LeO.ite ?_ ?_)
  ·intro y0 y1 y2 y3 y4 y5
   unfold canopyref5_named.l0
   repeat' first
   | (with_reducible exact ih0 _ _ _ _ _)
   | (with_reducible exact ih2 _ _ _ _ _ _)
   | (with_reducible exact LeO.refl _)
   | (with_reducible refine LeO.ite ?_ ?_)
   | (with_reducible refine LeO.bind ?_ (fun _ => ?_))
theorem canopyref5_named.mono : ∀ a0 a1 a2 a3 a4 k, LeO (canopyref5_named.f k a0 a1 a2 a3 a4) (canopyref5_named.f (k + 1) a0 a1 a2 a3 a4) := by
 intro a0 a1 a2 a3 a4 k
 obtain ⟨ih0, ih1, ih2⟩ := canopyref5_named.mono_l k
 exact ih0 a0 a1 a2 a3 a4
set_option maxHeartbeats 8000000 in
set_option maxRecDepth 100000 in
theorem canopyref5_named.calls (k : Nat) : ∀ (A0 : Option Addr) (c0 : Nat) (l0 : List (S56)) (a1_0 : Int) (a1_1 : Int) (a1_2 : Int) (A1_3 : Option Addr) (c1_3 : Nat) (l1_3 : List (S28)) (r : Bool) (w : World) (hr0 : Kd.C k56 w A0 l0.length l0) (hc0 : l0.length ≤ c0) (hr1_3 : Kd.C k28 w A1_3 l1_3.length l1_3) (hc1_3 : l1_3.length ≤ c1_3) (h : canopyref5_named.f k l0 a1_0 a1_1 a1_2 l1_3 = some r),
  Calls Try.prog 34 #[.slice A0 l0.length c0, .agg #[.int .i64 a1_0, .int .i64 a1_1, .int .i64 a1_2, .slice A1_3 l1_3.length c1_3]] w fun e w' => e = .returned (.bool r) ∧ Below w.heap.size w w' := by
 induction k using Nat.strongRecOn with
 | _ k ih =>
 intro A0 c0 l0 a1_0 a1_1 a1_2 A1_3 c1_3 l1_3 r w hr0 hc0 hr1_3 hc1_3 h
 cases k with
 | zero => exact absurd h (by simp [canopyref5_named.f])
 | succ k =>
 simp only [canopyref5_named.f] at h
 have HR0 := M0 hr0
 have HC0 := M0 hc0
 clear hr0 hc0
 have HR1_3 := M0 hr1_3
 clear hr1_3 hc1_3
 have HB := M0 (Below.refl w.heap.size w)
 have H : (if a1_0 = 3 then ((canopyref5_is.f l0 a1_1 0).bind fun t827 => (if t827 = true then (if a1_0 = 4 then ((canopyref5_is.f l0 a1_1 1).bind fun t828 => (if t828 = true then ((canopyref5_is.f l0 a1_2 2).bind fun t829 => (canopyref5_named.j0 k l0 (!t829) a1_0 a1_1 a1_2 l1_3)) else (canopyref5_named.j0 k l0 true a1_0 a1_1 a1_2 l1_3))) else (canopyref5_named.j0 k l0 false a1_0 a1_1 a1_2 l1_3)) else (canopyref5_named.j0 k l0 true a1_0 a1_1 a1_2 l1_3))) else (if a1_0 = 4 then ((canopyref5_is.f l0 a1_1 1).bind fun t830 => (if t830 = true then ((canopyref5_is.f l0 a1_2 2).bind fun t831 => (canopyref5_named.j0 k l0 (!t831) a1_0 a1_1 a1_2 l1_3)) else (canopyref5_named.j0 k l0 true a1_0 a1_1 a1_2 l1_3))) else (canopyref5_named.j0 k l0 false a1_0 a1_1 a1_2 l1_3))) = some r := h
 clear h
 have HC3 := M0 H
 clear H
 go_enter Try.func34, Try.ntmps34
 go_upto_region 1 with (((with_reducible refine gate_dst (N := 3) rfl ?_); refine box_event ?hg (N := 3) ?hd (cs := #[.int .i64 a1_0, .int .i64 a1_1, .int .i64 a1_2, .slice A1_3 l1_3.length c1_3]) (t := 28) ?hr ?_; (case hd => rfl); (case hg => rfl); (case hr => (go_simp; done)); intro gb826 hg w4 hbox hb; have BK826 := M0 hbox; replace HB := M0 (below_step HB.out hb); clear hb hbox hg))
 (skip)
 go_cut [34] (fun v34 wc => ∃ (kq : Nat) (x34_2 : Bool), v34 = .bool x34_2 ∧ Aside0 (canopyref5_named.j0 kq l0 x34_2 a1_0 a1_1 a1_2 l1_3 = some r) ∧ Aside0 (kq ≤ k) ∧ Aside0 (wc.heap[gb826]? = some (.cells #[.int .i64 a1_0, .int .i64 a1_1, .int .i64 a1_2, (.slice A1_3 l1_3.length c1_3)] 28 (0, 0))) ∧ Aside0 (Below w.heap.size w wc))
 case first =>
  have H := HC3.out
  clear HC3
  by_cases c5 : a1_0 = 3
  ·rw [if_pos c5] at H
   have c5b0 := bT c5
   clear c5
   (skip)
   replace H := Option.bind_eq_some_iff.mp H
   obtain ⟨t827, A60, H⟩ := H
   try dsimp only at H
   have A6 := M0 A60
   clear A60
   by_cases c7 : t827 = true
   ·subst c7
    rw [if_pos rfl] at H
    by_cases c8 : a1_0 = 4
    ·rw [if_pos c8] at H
     have c8b0 := bT c8
     clear c8
     replace H := Option.bind_eq_some_iff.mp H
     obtain ⟨t828, A90, H⟩ := H
     try dsimp only at H
     have A9 := M0 A90
     clear A90
     by_cases c10 : t828 = true
     ·subst c10
      rw [if_pos rfl] at H
      replace H := Option.bind_eq_some_iff.mp H
      obtain ⟨t829, A110, H⟩ := H
      try dsimp only at H
      have A11 := M0 A110
      clear A110
      have H' := M0 H
      clear H
      obtain ⟨_, _, _, _, _, _, _, _⟩ := cells4 BK826.out
      go_wp2_with (first | (go_at_call 53; (with_reducible refine (canopyref5_is.calls _ _ l0 a1_1 0 true _ ?side1 ?side2 A6.out).mono ?_); (case side1 => repeat (exact (Kd.C_below HR0.out HB.out))); (case side2 => exact HC0.out); rintro e w' ⟨rfl, ⟨nd, rfl⟩⟩) | (go_at_call 53; (with_reducible refine (canopyref5_is.calls _ _ l0 a1_1 1 true _ ?side1 ?side2 A9.out).mono ?_); (case side1 => repeat (exact (Kd.C_below HR0.out (by repeat ((with_reducible first | exact HB.out | apply pw_below_drewN)))))); (case side2 => exact HC0.out); rintro e w' ⟨rfl, ⟨nd, rfl⟩⟩) | (go_at_call 53; (with_reducible refine (canopyref5_is.calls _ _ l0 a1_2 2 t829 _ ?side1 ?side2 A11.out).mono ?_); (case side1 => repeat (exact (Kd.C_below HR0.out (by repeat ((with_reducible first | exact HB.out | apply pw_below_drewN)))))); (case side2 => exact HC0.out); rintro e w' ⟨rfl, ⟨nd, rfl⟩⟩))
      go_meet
      case rel => exact ⟨_, (!t829), (by rfl), H', ⟨by omega⟩, ⟨by (with_reducible repeat (refine blk_drewN ?_ _)); exact BK826.out⟩, ⟨by repeat ((with_reducible first | exact HB.out | apply pw_below_drewN))⟩⟩
     ·replace c10 := Bool.eq_false_iff.mpr c10
      subst c10
      rw [if_neg (show ¬ (false = true) by decide)] at H
      have H' := M0 H
      clear H
      obtain ⟨_, _, _, _, _, _, _, _⟩ := cells4 BK826.out
      go_wp2_with (first | (go_at_call 53; (with_reducible refine (canopyref5_is.calls _ _ l0 a1_1 0 true _ ?side1 ?side2 A6.out).mono ?_); (case side1 => repeat (exact (Kd.C_below HR0.out HB.out))); (case side2 => exact HC0.out); rintro e w' ⟨rfl, ⟨nd, rfl⟩⟩) | (go_at_call 53; (with_reducible refine (canopyref5_is.calls _ _ l0 a1_1 1 false _ ?side1 ?side2 A9.out).mono ?_); (case side1 => repeat (exact (Kd.C_below HR0.out (by repeat ((with_reducible first | exact HB.out | apply pw_below_drewN)))))); (case side2 => exact HC0.out); rintro e w' ⟨rfl, ⟨nd, rfl⟩⟩))
      go_meet
      case rel => exact ⟨_, (true), (by rfl), H', ⟨by omega⟩, ⟨by (with_reducible repeat (refine blk_drewN ?_ _)); exact BK826.out⟩, ⟨by repeat ((with_reducible first | exact HB.out | apply pw_below_drewN))⟩⟩
    ·rw [if_neg c8] at H
     have c8b0 := bF c8
     have H' := M0 H
     clear H
     obtain ⟨_, _, _, _, _, _, _, _⟩ := cells4 BK826.out
     go_wp2_with ((go_at_call 53; (with_reducible refine (canopyref5_is.calls _ _ l0 a1_1 0 true _ ?side1 ?side2 A6.out).mono ?_); (case side1 => repeat (exact (Kd.C_below HR0.out HB.out))); (case side2 => exact HC0.out); rintro e w' ⟨rfl, ⟨nd, rfl⟩⟩))
     go_meet
     case rel => exact ⟨_, (false), (by rfl), H', ⟨by omega⟩, ⟨by (with_reducible repeat (refine blk_drewN ?_ _)); exact BK826.out⟩, ⟨by repeat ((with_reducible first | exact HB.out | apply pw_below_drewN))⟩⟩
   ·replace c7 := Bool.eq_false_iff.mpr c7
    subst c7
    rw [if_neg (show ¬ (false = true) by decide)] at H
    have H' := M0 H
    clear H
    obtain ⟨_, _, _, _, _, _, _, _⟩ := cells4 BK826.out
    go_wp2_with ((go_at_call 53; (with_reducible refine (canopyref5_is.calls _ _ l0 a1_1 0 false _ ?side1 ?side2 A6.out).mono ?_); (case side1 => repeat (exact (Kd.C_below HR0.out HB.out))); (case side2 => exact HC0.out); rintro e w' ⟨rfl, ⟨nd, rfl⟩⟩))
    go_meet
    case rel => exact ⟨_, (true), (by rfl), H', ⟨by omega⟩, ⟨by (with_reducible repeat (refine blk_drewN ?_ _)); exact BK826.out⟩, ⟨by repeat ((with_reducible first | exact HB.out | apply pw_below_drewN))⟩⟩
  ·rw [if_neg c5] at H
   have c5b0 := bF c5
   have c5b1 := nT c5
   (skip)
   by_cases c16 : a1_0 = 4
   ·rw [if_pos c16] at H
    have c16b0 := bT c16
    clear c16
    replace H := Option.bind_eq_some_iff.mp H
    obtain ⟨t830, A170, H⟩ := H
    try dsimp only at H
    have A17 := M0 A170
    clear A170
    by_cases c18 : t830 = true
    ·subst c18
     rw [if_pos rfl] at H
     replace H := Option.bind_eq_some_iff.mp H
     obtain ⟨t831, A190, H⟩ := H
     try dsimp only at H
     have A19 := M0 A190
     clear A190
     have H' := M0 H
     clear H
     obtain ⟨_, _, _, _, _, _, _, _⟩ := cells4 BK826.out
     go_wp2_with (first | (go_at_call 53; (with_reducible refine (canopyref5_is.calls _ _ l0 a1_1 1 true _ ?side1 ?side2 A17.out).mono ?_); (case side1 => repeat (exact (Kd.C_below HR0.out HB.out))); (case side2 => exact HC0.out); rintro e w' ⟨rfl, ⟨nd, rfl⟩⟩) | (go_at_call 53; (with_reducible refine (canopyref5_is.calls _ _ l0 a1_2 2 t831 _ ?side1 ?side2 A19.out).mono ?_); (case side1 => repeat (exact (Kd.C_below HR0.out (by repeat ((with_reducible first | exact HB.out | apply pw_below_drewN)))))); (case side2 => exact HC0.out); rintro e w' ⟨rfl, ⟨nd, rfl⟩⟩))
     go_meet
     case rel => exact ⟨_, (!t831), (by rfl), H', ⟨by omega⟩, ⟨by (with_reducible repeat (refine blk_drewN ?_ _)); exact BK826.out⟩, ⟨by repeat ((with_reducible first | exact HB.out | apply pw_below_drewN))⟩⟩
    ·replace c18 := Bool.eq_false_iff.mpr c18
     subst c18
     rw [if_neg (show ¬ (false = true) by decide)] at H
     have H' := M0 H
     clear H
     obtain ⟨_, _, _, _, _, _, _, _⟩ := cells4 BK826.out
     go_wp2_with ((go_at_call 53; (with_reducible refine (canopyref5_is.calls _ _ l0 a1_1 1 false _ ?side1 ?side2 A17.out).mono ?_); (case side1 => repeat (exact (Kd.C_below HR0.out HB.out))); (case side2 => exact HC0.out); rintro e w' ⟨rfl, ⟨nd, rfl⟩⟩))
     go_meet
     case rel => exact ⟨_, (true), (by rfl), H', ⟨by omega⟩, ⟨by (with_reducible repeat (refine blk_drewN ?_ _)); exact BK826.out⟩, ⟨by repeat ((with_reducible first | exact HB.out | apply pw_below_drewN))⟩⟩
   ·rw [if_neg c16] at H
    have c16b0 := bF c16
    have H' := M0 H
    clear H
    obtain ⟨_, _, _, _, _, _, _, _⟩ := cells4 BK826.out
    go_wp2
    go_meet
    case rel => exact ⟨_, (false), (by rfl), H', ⟨by omega⟩, ⟨by exact BK826.out⟩, ⟨by with_reducible exact HB.out⟩⟩
 case rest =>
  clear HC3
  obtain ⟨kq, x34_2, rfl, HA, HJ2, BK826, HB⟩ := hcut
  cases kq with
  | zero => exact absurd HA.out (by simp [canopyref5_named.j0])
  | succ kj2 =>
   have H := HA.out
   clear HA
   simp only [canopyref5_named.j0] at H
   by_cases c23 : x34_2 = true
   ·subst c23
    rw [if_pos rfl] at H
    obtain rfl := Option.some.inj H
    go_wp2
    go_ret
    exact ⟨by rfl, by with_reducible exact HB.out⟩
   ·replace c23 := Bool.eq_false_iff.mpr c23
    subst c23
    rw [if_neg (show ¬ (false = true) by decide)] at H
    have H' := M0 H
    clear H
    go_wp2
    go_loopg [5] kj2 (fun kq v5 w' => ∃ (x5_2 : Int), v5 = .int .i64 x5_2 ∧ Aside0 (canopyref5_named.l0 kq l0 x5_2 a1_0 a1_1 a1_2 l1_3 = some r) ∧ Aside0 (kq ≤ kj2) ∧ Aside0 (w'.heap[gb826]? = some (.cells #[.int .i64 a1_0, .int .i64 a1_1, .int .i64 a1_2, (.slice A1_3 l1_3.length c1_3)] 28 (0, 0))) ∧ Aside0 (Below w.heap.size w w'))
    case atStart => exact ⟨(0), (by rfl), H', ⟨Nat.le_refl _⟩, ⟨by exact BK826.out⟩, ⟨by with_reducible exact HB.out⟩⟩
    case round =>
     clear H'
     obtain ⟨x5_2, rfl, HA, HK2, BK826, HB⟩ := hrel
     cases gk with
     | zero => exact absurd HA.out (by simp [canopyref5_named.l0])
     | succ k2 =>
      have H := HA.out
      clear HA
      simp only [canopyref5_named.l0] at H
      by_cases c24 : x5_2 < (l1_3.length : Int)
      ·rw [if_pos c24] at H
       have c24b0 := decide_eq_true c24
       clear c24
       by_cases c25 : 0 ≤ x5_2
       ·rw [if_pos c25] at H
        have c25b0 := decide_eq_true c25
        clear c25
        replace H := Option.bind_eq_some_iff.mp H
        obtain ⟨t833, A260, H⟩ := H
        try dsimp only at H
        have A26 := M0 A260
        clear A260
        by_cases c27 : t833 = true
        ·subst c27
         rw [if_pos rfl] at H
         have H' := M0 H
         clear H
         obtain ⟨_, _, _, _, _, _, _, _⟩ := cells4 BK826.out
         have p832 : 0 ≤ (x5_2 : Int) := of_decide_eq_true (by (with_reducible assumption))
         have q832 : x5_2 < (l1_3.length : Int) := of_decide_eq_true (by (with_reducible assumption))
         obtain ⟨ad832, A832_3, c832_3, e832, hx832_0, hx832_1, hx832_2, hx832_3, hl832_3, hi832_3⟩ := at_T28 HR1_3.out x5_2 p832 q832
         cases e832
         replace hx832_0 := (HB.out.cell (World.block_lt_of_cell? w _ hx832_0)).trans hx832_0
         replace hx832_1 := (HB.out.cell (World.block_lt_of_cell? w _ hx832_1)).trans hx832_1
         replace hx832_2 := (HB.out.cell (World.block_lt_of_cell? w _ hx832_2)).trans hx832_2
         replace hx832_3 := (HB.out.cell (World.block_lt_of_cell? w _ hx832_3)).trans hx832_3
         have HR832_3 := M0 hi832_3
         have HC832_3 := M0 hl832_3
         clear hi832_3 hl832_3
         replace p832 := eq_true p832
         replace q832 := eq_true q832
         go_wp2_with (((with_reducible refine gate_callee (f := 34) rfl ?_); refine goesL_ (some 48) rfl rfl Try.func34 (by kernel_rfl) rfl #[.slice A0 l0.length c0, .agg #[.int .i64 ((rd_T28 l1_3 x5_2).f0), .int .i64 ((rd_T28 l1_3 x5_2).f1), .int .i64 ((rd_T28 l1_3 x5_2).f2), .slice A832_3 ((rd_T28 l1_3 x5_2).f3).length c832_3]] rfl (by (simp only [List.map_toArray, List.map_cons, List.map_nil]); rfl) ?_; (with_reducible refine (ih k2 (by have := HJ2.out; have := HK2.out; omega) _ _ l0 ((rd_T28 l1_3 x5_2).f0) ((rd_T28 l1_3 x5_2).f1) ((rd_T28 l1_3 x5_2).f2) _ _ ((rd_T28 l1_3 x5_2).f3) true _ ?side1 ?side2 ?side3 ?side4 A26.out).mono ?_); (case side1 => repeat (exact (Kd.C_below HR0.out HB.out))); (case side2 => exact HC0.out); (case side3 => repeat (exact (Kd.C_below HR832_3.out HB.out))); (case side4 => exact HC832_3.out); rintro e w29 ⟨rfl, hb⟩; refine ⟨_, rfl, ?_⟩; replace BK826 := M0 (blk_below BK826.out hb); replace HB := M0 (below_step HB.out hb); clear hb))
         go_roundg k2
         case measure => have := HJ2.out; have := HK2.out; omega
         case rel => exact ⟨(wrap64 (x5_2 + 1)), (by rfl), H', ⟨by have := HJ2.out; have := HK2.out; omega⟩, ⟨by exact BK826.out⟩, ⟨by with_reducible exact HB.out⟩⟩
        ·replace c27 := Bool.eq_false_iff.mpr c27
         subst c27
         rw [if_neg (show ¬ (false = true) by decide)] at H
         obtain rfl := Option.some.inj H
         obtain ⟨_, _, _, _, _, _, _, _⟩ := cells4 BK826.out
         have p832 : 0 ≤ (x5_2 : Int) := of_decide_eq_true (by (with_reducible assumption))
         have q832 : x5_2 < (l1_3.length : Int) := of_decide_eq_true (by (with_reducible assumption))
         obtain ⟨ad832, A832_3, c832_3, e832, hx832_0, hx832_1, hx832_2, hx832_3, hl832_3, hi832_3⟩ := at_T28 HR1_3.out x5_2 p832 q832
         cases e832
         replace hx832_0 := (HB.out.cell (World.block_lt_of_cell? w _ hx832_0)).trans hx832_0
         replace hx832_1 := (HB.out.cell (World.block_lt_of_cell? w _ hx832_1)).trans hx832_1
         replace hx832_2 := (HB.out.cell (World.block_lt_of_cell? w _ hx832_2)).trans hx832_2
         replace hx832_3 := (HB.out.cell (World.block_lt_of_cell? w _ hx832_3)).trans hx832_3
         have HR832_3 := M0 hi832_3
         have HC832_3 := M0 hl832_3
         clear hi832_3 hl832_3
         replace p832 := eq_true p832
         replace q832 := eq_true q832
         go_wp2_with (((with_reducible refine gate_callee (f := 34) rfl ?_); refine goesL_ (some 48) rfl rfl Try.func34 (by kernel_rfl) rfl #[.slice A0 l0.length c0, .agg #[.int .i64 ((rd_T28 l1_3 x5_2).f0), .int .i64 ((rd_T28 l1_3 x5_2).f1), .int .i64 ((rd_T28 l1_3 x5_2).f2), .slice A832_3 ((rd_T28 l1_3 x5_2).f3).length c832_3]] rfl (by (simp only [List.map_toArray, List.map_cons, List.map_nil]); rfl) ?_; (with_reducible refine (ih k2 (by have := HJ2.out; have := HK2.out; omega) _ _ l0 ((rd_T28 l1_3 x5_2).f0) ((rd_T28 l1_3 x5_2).f1) ((rd_T28 l1_3 x5_2).f2) _ _ ((rd_T28 l1_3 x5_2).f3) false _ ?side1 ?side2 ?side3 ?side4 A26.out).mono ?_); (case side1 => repeat (exact (Kd.C_below HR0.out HB.out))); (case side2 => exact HC0.out); (case side3 => repeat (exact (Kd.C_below HR832_3.out HB.out))); (case side4 => exact HC832_3.out); rintro e w31 ⟨rfl, hb⟩; refine ⟨_, rfl, ?_⟩; clear BK826; replace HB := M0 (below_step HB.out hb); clear hb))
         go_ret
         exact ⟨by rfl, by with_reducible exact HB.out⟩
       ·rw [if_neg c25] at H
        exact absurd H (by simp)
      ·rw [if_neg c24] at H
       have c24b0 := decide_eq_false c24
       clear c24
       obtain rfl := Option.some.inj H
       obtain ⟨_, _, _, _, _, _, _, _⟩ := cells4 BK826.out
       go_wp2
       go_ret
       exact ⟨by rfl, by with_reducible exact HB.out⟩

end Go.Proofs.Ytodbnnfiadcbaaa.P
