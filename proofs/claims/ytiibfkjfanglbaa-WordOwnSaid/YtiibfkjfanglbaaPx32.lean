-- written by pp.py (wip/tools of this session's repo) out of the seat's translation
import Derived.Test.YtiibfkjfanglbaaPx0
namespace Go.Proofs.Ytiibfkjfanglbaa.P
open Go.RowKit Go.Proofs.YtiibfkjfanglbaaW.PrintWords Go.Proofs.YtiibfkjfanglbaaW.PrintLast Go.Proofs.YtiibfkjfanglbaaW.PrintMore
attribute [local go_sem] max2_int min2_int max_two min_two max_three min_three max_four min_four   -- for this text's walks alone
set_option linter.unusedVariables false
set_option linter.unusedSimpArgs false

/-! ### canopyref1_Deep: function 28 -/
def canopyref1_Deep.l0 : Nat → List (S40) → List Int → Int → Int → Int → Option (Int)
  | 0, _, _, _, _, _ => none
  | k + 1, x0, x1, x5, x6, x7 => if x7 < (x1.length : Int) then (if 0 ≤ x7 then (if 0 ≤ (rd x1 x7) then (if (rd x1 x7) < (x0.length : Int) then (if ((rd_T40 x0 (rd x1 x7)).f1) = 1 then (canopyref1_Deep.l0 k x0 x1 (mx x5 (wrap64 (x6 + 1))) (wrap64 (x6 + 1)) (wrap64 (x7 + 1))) else (if ((rd_T40 x0 (rd x1 x7)).f1) = 2 then (canopyref1_Deep.l0 k x0 x1 (mx x5 (mx (wrap64 (x6 - 1)) 0)) (mx (wrap64 (x6 - 1)) 0) (wrap64 (x7 + 1))) else (canopyref1_Deep.l0 k x0 x1 (mx x5 x6) x6 (wrap64 (x7 + 1))))) else (none)) else (none)) else (none)) else (some x5)
def canopyref1_Deep.f (k : Nat) (l0 : List (S40)) (l1 : List Int) : Option (Int) := canopyref1_Deep.l0 k l0 l1 0 0 0
theorem canopyref1_Deep.mono_l : ∀ k, (∀ y0 y1 y2 y3 y4, LeO (canopyref1_Deep.l0 k y0 y1 y2 y3 y4) (canopyref1_Deep.l0 (k + 1) y0 y1 y2 y3 y4))
  | 0 => fun _ _ _ _ _ r h => by simp [canopyref1_Deep.l0] at h
  | k + 1 => by
    have ih0 := canopyref1_Deep.mono_l k
    · intro y0 y1 y2 y3 y4
      unfold canopyref1_Deep.l0
      repeat' first
      | (with_reducible exact ih0 _ _ _ _ _)
      | (with_reducible exact LeO.refl _)
      | (with_reducible exact LeO.none _)
      | (with_reducible refine LeO.ite ?_ ?_)
      | (with_reducible refine LeO.bind ?_ (fun _ => ?_))
      | exact ih0 _ _ _ _ _
      | exact LeO.none _
      | refine LeO.ite ?_ ?_
      | refine LeO.bind ?_ (fun _ => ?_)
theorem canopyref1_Deep.mono : ∀ a0 a1 k, LeO (canopyref1_Deep.f k a0 a1) (canopyref1_Deep.f (k + 1) a0 a1) := by
  intro a0 a1 k
  have ih0 := canopyref1_Deep.mono_l k
  unfold canopyref1_Deep.f
  repeat' first
      | (with_reducible exact ih0 _ _ _ _ _)
      | (with_reducible exact LeO.refl _)
      | (with_reducible exact LeO.none _)
      | (with_reducible refine LeO.ite ?_ ?_)
      | (with_reducible refine LeO.bind ?_ (fun _ => ?_))
      | exact ih0 _ _ _ _ _
      | exact LeO.none _
      | refine LeO.ite ?_ ?_
      | refine LeO.bind ?_ (fun _ => ?_)
set_option maxHeartbeats 8000000 in
set_option maxRecDepth 100000 in
theorem canopyref1_Deep.calls (k : Nat) (A0 : Option Addr) (c0 : Nat) (l0 : List (S40)) (A1 : Option Addr) (c1 : Nat) (l1 : List Int) (r : Int) (w : World) (hr0 : Kd.C k40 w A0 l0.length l0) (hc0 : l0.length ≤ c0) (hr1 : Kd.C (Kd.int .i64) w A1 l1.length l1) (hc1 : l1.length ≤ c1) (h : canopyref1_Deep.f k l0 l1 = some r) :
    Calls Try.prog 28 #[.slice A0 l0.length c0, .slice A1 l1.length c1] w fun e w' => e = .returned (.int .i64 r) ∧ Below w.heap.size w w' := by
  have HR0 := Aside0.mk hr0
  have HC0 := Aside0.mk hc0
  clear hr0 hc0
  have HR1 := Aside0.mk hr1
  have HC1 := Aside0.mk hc1
  clear hr1 hc1
  have HB := Aside0.mk (Below.refl w.heap.size w)
  have H : (canopyref1_Deep.l0 k l0 l1 0 0 0) = some r := h
  clear h
  have H' := Aside0.mk H
  clear H
  go_enter Try.func28, Try.ntmps28
  go_wp2
  go_loopg [5, 6, 7] k (fun kq v5 v6 v7 w' => ∃ (x5_1 : Int) (x6_1 : Int) (x7_1 : Int), v5 = .int .i64 x5_1 ∧ v6 = .int .i64 x6_1 ∧ v7 = .int .i64 x7_1 ∧ Aside0 (canopyref1_Deep.l0 kq l0 l1 x5_1 x6_1 x7_1 = some r) ∧ Aside0 (kq ≤ k) ∧ Aside0 (Below w.heap.size w w'))
  case atStart => exact ⟨(0), (0), (0), (by first | rfl | (simp; done) | (simp [*]; done)), (by first | rfl | (simp; done) | (simp [*]; done)), (by first | rfl | (simp; done) | (simp [*]; done)), H', ⟨Nat.le_refl _⟩, ⟨by repeat (first | (with_reducible first | exact HB.out | apply below_alloc | apply pw_below_drewN | apply below_drew1) | exact HB.out)⟩⟩
  case round =>
    clear H'
    try clear c1
    try clear c2
    try clear p2
    obtain ⟨x5_1, x6_1, x7_1, rfl, rfl, rfl, HA, HK1, HB⟩ := hrel
    cases gk with
    | zero => exact absurd HA.out (by simp [canopyref1_Deep.l0])
    | succ k1 =>
      have H := HA.out
      clear HA
      simp only [canopyref1_Deep.l0] at H
      by_cases c3 : x7_1 < (l1.length : Int)
      · rw [if_pos c3] at H
        have c3b0 : decide (x7_1 < (l1.length : Int)) = true := decide_eq_true c3
        clear c3
        by_cases c4 : 0 ≤ x7_1
        · rw [if_pos c4] at H
          have c4b0 : decide (0 ≤ x7_1) = true := decide_eq_true c4
          clear c4
          by_cases c5 : 0 ≤ (rd l1 x7_1)
          · rw [if_pos c5] at H
            have c5b0 : decide (0 ≤ (rd l1 x7_1)) = true := decide_eq_true c5
            clear c5
            by_cases c6 : (rd l1 x7_1) < (l0.length : Int)
            · rw [if_pos c6] at H
              have c6b0 : decide ((rd l1 x7_1) < (l0.length : Int)) = true := decide_eq_true c6
              clear c6
              by_cases c7 : ((rd_T40 l0 (rd l1 x7_1)).f1) = 1
              · rw [if_pos c7] at H
                have c7b0 : (((rd_T40 l0 (rd l1 x7_1)).f1) == 1) = true := beq_iff_eq.mpr c7
                have c7b1 : (((rd_T40 l0 (rd l1 x7_1)).f1) != 1) = false := bne_eq_false_iff_eq.mpr c7
                clear c7
                obtain ⟨ji8, hji8⟩ : ∃ j_ : Int, (mx x5_1 (wrap64 (x6_1 + 1))) = j_ := ⟨_, rfl⟩
                replace H : (canopyref1_Deep.l0 k1 l0 l1 ji8 (wrap64 (x6_1 + 1)) (wrap64 (x7_1 + 1))) = some r := by first | (rw [hji8] at H; exact H) | (simp only [hji8] at H ⊢; exact H)
                have hji8_ : (if x5_1 < (wrap64 (x6_1 + 1)) then (wrap64 (x6_1 + 1)) else x5_1) = ji8 := hji8
                have H' := Aside0.mk H
                clear H
                have p359 : 0 ≤ (x7_1 : Int) := of_decide_eq_true (by first | (with_reducible assumption) | assumption)
                have q359 : x7_1 < (l1.length : Int) := of_decide_eq_true (by first | (with_reducible assumption) | assumption)
                obtain ⟨ad359, e359, hx359_0⟩ := Kd.at_int HR1.out x7_1 p359 q359
                cases e359
                replace hx359_0 := (HB.out.cell (World.block_lt_of_cell? w _ hx359_0)).trans hx359_0
                replace p359 := eq_true p359
                replace q359 := eq_true q359
                have p360 : 0 ≤ ((rd l1 x7_1) : Int) := of_decide_eq_true (by first | (with_reducible assumption) | assumption)
                have q360 : (rd l1 x7_1) < (l0.length : Int) := of_decide_eq_true (by first | (with_reducible assumption) | assumption)
                obtain ⟨ad360, e360, hx360_0, hx360_1⟩ := at_T40 HR0.out (rd l1 x7_1) p360 q360
                cases e360
                replace hx360_0 := (HB.out.cell (World.block_lt_of_cell? w _ hx360_0)).trans hx360_0
                replace hx360_1 := (HB.out.cell (World.block_lt_of_cell? w _ hx360_1)).trans hx360_1
                replace p360 := eq_true p360
                replace q360 := eq_true q360
                go_wp2
                go_roundg k1
                case measure => have := HK1.out; omega
                case rel => exact ⟨(ji8), (wrap64 (x6_1 + 1)), (wrap64 (x7_1 + 1)), (by first | rfl | (simp; done) | (simp only [← hji8] <;> (first | rfl | simp)) | (simp [*]; done)), (by first | rfl | (simp; done) | (simp [*]; done)), (by first | rfl | (simp; done) | (simp [*]; done)), H', ⟨by have := HK1.out; omega⟩, ⟨by repeat (first | (with_reducible first | exact HB.out | apply below_alloc | apply pw_below_drewN | apply below_drew1) | exact HB.out)⟩⟩
              · rw [if_neg c7] at H
                have c7b0 : (((rd_T40 l0 (rd l1 x7_1)).f1) == 1) = false := beq_eq_false_iff_ne.mpr c7
                have c7b1 : (((rd_T40 l0 (rd l1 x7_1)).f1) != 1) = true := bne_iff_ne.mpr c7
                by_cases c9 : ((rd_T40 l0 (rd l1 x7_1)).f1) = 2
                · rw [if_pos c9] at H
                  have c9b0 : (((rd_T40 l0 (rd l1 x7_1)).f1) == 2) = true := beq_iff_eq.mpr c9
                  have c9b1 : (((rd_T40 l0 (rd l1 x7_1)).f1) != 2) = false := bne_eq_false_iff_eq.mpr c9
                  clear c9
                  obtain ⟨ji10, hji10⟩ : ∃ j_ : Int, (mx (wrap64 (x6_1 - 1)) 0) = j_ := ⟨_, rfl⟩
                  replace H : (canopyref1_Deep.l0 k1 l0 l1 (mx x5_1 (ji10)) ji10 (wrap64 (x7_1 + 1))) = some r := by first | (rw [hji10] at H; exact H) | (simp only [hji10] at H ⊢; exact H)
                  have hji10_ : (if (wrap64 (x6_1 - 1)) < 0 then 0 else (wrap64 (x6_1 - 1))) = ji10 := hji10
                  obtain ⟨ji11, hji11⟩ : ∃ j_ : Int, (mx x5_1 (ji10)) = j_ := ⟨_, rfl⟩
                  replace H : (canopyref1_Deep.l0 k1 l0 l1 ji11 ji10 (wrap64 (x7_1 + 1))) = some r := by first | (rw [hji11] at H; exact H) | (simp only [hji11] at H ⊢; exact H)
                  have hji11_ : (if x5_1 < (ji10) then (ji10) else x5_1) = ji11 := hji11
                  have H' := Aside0.mk H
                  clear H
                  have p359 : 0 ≤ (x7_1 : Int) := of_decide_eq_true (by first | (with_reducible assumption) | assumption)
                  have q359 : x7_1 < (l1.length : Int) := of_decide_eq_true (by first | (with_reducible assumption) | assumption)
                  obtain ⟨ad359, e359, hx359_0⟩ := Kd.at_int HR1.out x7_1 p359 q359
                  cases e359
                  replace hx359_0 := (HB.out.cell (World.block_lt_of_cell? w _ hx359_0)).trans hx359_0
                  replace p359 := eq_true p359
                  replace q359 := eq_true q359
                  have p360 : 0 ≤ ((rd l1 x7_1) : Int) := of_decide_eq_true (by first | (with_reducible assumption) | assumption)
                  have q360 : (rd l1 x7_1) < (l0.length : Int) := of_decide_eq_true (by first | (with_reducible assumption) | assumption)
                  obtain ⟨ad360, e360, hx360_0, hx360_1⟩ := at_T40 HR0.out (rd l1 x7_1) p360 q360
                  cases e360
                  replace hx360_0 := (HB.out.cell (World.block_lt_of_cell? w _ hx360_0)).trans hx360_0
                  replace hx360_1 := (HB.out.cell (World.block_lt_of_cell? w _ hx360_1)).trans hx360_1
                  replace p360 := eq_true p360
                  replace q360 := eq_true q360
                  go_wp2
                  go_roundg k1
                  case measure => have := HK1.out; omega
                  case rel => exact ⟨(ji11), (ji10), (wrap64 (x7_1 + 1)), (by first | rfl | (simp; done) | (simp only [← hji11] <;> (first | rfl | simp)) | (simp [*]; done)), (by first | rfl | (simp; done) | (simp only [← hji10] <;> (first | rfl | simp)) | (simp [*]; done)), (by first | rfl | (simp; done) | (simp [*]; done)), H', ⟨by have := HK1.out; omega⟩, ⟨by repeat (first | (with_reducible first | exact HB.out | apply below_alloc | apply pw_below_drewN | apply below_drew1) | exact HB.out)⟩⟩
                · rw [if_neg c9] at H
                  have c9b0 : (((rd_T40 l0 (rd l1 x7_1)).f1) == 2) = false := beq_eq_false_iff_ne.mpr c9
                  have c9b1 : (((rd_T40 l0 (rd l1 x7_1)).f1) != 2) = true := bne_iff_ne.mpr c9
                  obtain ⟨ji12, hji12⟩ : ∃ j_ : Int, (mx x5_1 x6_1) = j_ := ⟨_, rfl⟩
                  replace H : (canopyref1_Deep.l0 k1 l0 l1 ji12 x6_1 (wrap64 (x7_1 + 1))) = some r := by first | (rw [hji12] at H; exact H) | (simp only [hji12] at H ⊢; exact H)
                  have hji12_ : (if x5_1 < x6_1 then x6_1 else x5_1) = ji12 := hji12
                  have H' := Aside0.mk H
                  clear H
                  have p359 : 0 ≤ (x7_1 : Int) := of_decide_eq_true (by first | (with_reducible assumption) | assumption)
                  have q359 : x7_1 < (l1.length : Int) := of_decide_eq_true (by first | (with_reducible assumption) | assumption)
                  obtain ⟨ad359, e359, hx359_0⟩ := Kd.at_int HR1.out x7_1 p359 q359
                  cases e359
                  replace hx359_0 := (HB.out.cell (World.block_lt_of_cell? w _ hx359_0)).trans hx359_0
                  replace p359 := eq_true p359
                  replace q359 := eq_true q359
                  have p360 : 0 ≤ ((rd l1 x7_1) : Int) := of_decide_eq_true (by first | (with_reducible assumption) | assumption)
                  have q360 : (rd l1 x7_1) < (l0.length : Int) := of_decide_eq_true (by first | (with_reducible assumption) | assumption)
                  obtain ⟨ad360, e360, hx360_0, hx360_1⟩ := at_T40 HR0.out (rd l1 x7_1) p360 q360
                  cases e360
                  replace hx360_0 := (HB.out.cell (World.block_lt_of_cell? w _ hx360_0)).trans hx360_0
                  replace hx360_1 := (HB.out.cell (World.block_lt_of_cell? w _ hx360_1)).trans hx360_1
                  replace p360 := eq_true p360
                  replace q360 := eq_true q360
                  go_wp2
                  go_roundg k1
                  case measure => have := HK1.out; omega
                  case rel => exact ⟨(ji12), (x6_1), (wrap64 (x7_1 + 1)), (by first | rfl | (simp; done) | (simp only [← hji12] <;> (first | rfl | simp)) | (simp [*]; done)), (by first | rfl | (simp; done) | (simp [*]; done)), (by first | rfl | (simp; done) | (simp [*]; done)), H', ⟨by have := HK1.out; omega⟩, ⟨by repeat (first | (with_reducible first | exact HB.out | apply below_alloc | apply pw_below_drewN | apply below_drew1) | exact HB.out)⟩⟩
            · rw [if_neg c6] at H
              exact absurd H (by simp)
          · rw [if_neg c5] at H
            exact absurd H (by simp)
        · rw [if_neg c4] at H
          exact absurd H (by simp)
      · rw [if_neg c3] at H
        have c3b0 : decide (x7_1 < (l1.length : Int)) = false := decide_eq_false c3
        clear c3
        obtain rfl := Option.some.inj H
        go_wp2
        go_ret
        exact ⟨by first | rfl | (simp [errW_none, errW_some] <;> rfl) | (simp [*, errW_none, errW_some] <;> rfl), by repeat (first | (with_reducible first | exact HB.out | apply below_alloc | apply pw_below_drewN | apply below_drew1) | exact HB.out)⟩

end Go.Proofs.Ytiibfkjfanglbaa.P
