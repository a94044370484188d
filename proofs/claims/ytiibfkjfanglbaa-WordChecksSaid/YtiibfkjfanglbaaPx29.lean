-- written by pp.py (wip/tools of this session's repo) out of the seat's translation
import Derived.Test.YtiibfkjfanglbaaPx0
import Derived.Test.YtiibfkjfanglbaaPx1
import Derived.Test.YtiibfkjfanglbaaPx24
namespace Go.Proofs.Ytiibfkjfanglbaa.P
open Go.RowKit Go.Proofs.YtiibfkjfanglbaaW.PrintWords Go.Proofs.YtiibfkjfanglbaaW.PrintLast Go.Proofs.YtiibfkjfanglbaaW.PrintMore
attribute [local go_sem] max2_int min2_int max_two min_two max_three min_three max_four min_four   -- for this text's walks alone
set_option linter.unusedVariables false
set_option linter.unusedSimpArgs false

attribute [local go_sem high] eqA40
/-! ### canopyref1_Check: function 24 -/
mutual
def canopyref1_Check.j0 : Nat → List (S40) → Bool → Option (Int)
  | 0, _, _ => none
  | k + 1, x0, x12 => if x12 = true then (some 2) else (canopyref1_Check.l0 k x0 0)
def canopyref1_Check.l0 : Nat → List (S40) → Int → Option (Int)
  | 0, _, _ => none
  | k + 1, x0, x3 => if x3 < (x0.length : Int) then (if 0 ≤ x3 then ((canopyref1_Letters.f k ((rd_T40 x0 x3).f0)).bind fun t300 => (if t300 = true then (if ((rd_T40 x0 x3).f1) < 1 then (some 7) else (if ((rd_T40 x0 x3).f1) > 3 then (some 7) else (canopyref1_Check.l1 k x0 x3 0))) else (some 4))) else (none)) else (some 0)
def canopyref1_Check.l1 : Nat → List (S40) → Int → Int → Option (Int)
  | 0, _, _, _ => none
  | k + 1, x0, x3, x4 => if x4 < x3 then (if 0 ≤ x4 then (if x4 < (x0.length : Int) then (if 0 ≤ x3 then (if x3 < (x0.length : Int) then (if ((((rd_T40 x0 x4).f0).toList) == (((rd_T40 x0 x3).f0).toList) && (((rd_T40 x0 x4).f1) == ((rd_T40 x0 x3).f1))) = true then (some 5) else (canopyref1_Check.l1 k x0 x3 (wrap64 (x4 + 1)))) else (none)) else (none)) else (none)) else (none)) else (canopyref1_Check.l0 k x0 (wrap64 (x3 + 1)))
end
def canopyref1_Check.f (k : Nat) (l0 : List (S40)) : Option (Int) := if (l0.length : Int) = 0 then (canopyref1_Check.j0 k l0 true) else (canopyref1_Check.j0 k l0 (decide ((l0.length : Int) > 20)))
theorem canopyref1_Check.mono_l : ∀ k, (∀ y0 y1, LeO (canopyref1_Check.j0 k y0 y1) (canopyref1_Check.j0 (k + 1) y0 y1)) ∧ (∀ y0 y1, LeO (canopyref1_Check.l0 k y0 y1) (canopyref1_Check.l0 (k + 1) y0 y1)) ∧ (∀ y0 y1 y2, LeO (canopyref1_Check.l1 k y0 y1 y2) (canopyref1_Check.l1 (k + 1) y0 y1 y2))
  | 0 => ⟨fun _ _ r h => by simp [canopyref1_Check.j0] at h, fun _ _ r h => by simp [canopyref1_Check.l0] at h, fun _ _ _ r h => by simp [canopyref1_Check.l1] at h⟩
  | k + 1 => by
    obtain ⟨ih0, ih1, ih2⟩ := canopyref1_Check.mono_l k
    refine ⟨?_, ?_, ?_⟩
    · intro y0 y1
      unfold canopyref1_Check.j0
      repeat' first
      | (with_reducible exact ih0 _ _)
      | (with_reducible exact ih1 _ _)
      | (with_reducible exact ih2 _ _ _)
      | (with_reducible exact canopyref1_Letters.mono _ _)
      | (with_reducible exact LeO.refl _)
      | (with_reducible exact LeO.none _)
      | (with_reducible refine LeO.ite ?_ ?_)
      | (with_reducible refine LeO.bind ?_ (fun _ => ?_))
      | exact ih0 _ _
      | exact ih1 _ _
      | exact ih2 _ _ _
      | exact canopyref1_Letters.mono _ _
      | exact LeO.none _
      | refine LeO.ite ?_ ?_
      | refine LeO.bind ?_ (fun _ => ?_)
    · intro y0 y1
      unfold canopyref1_Check.l0
      repeat' first
      | (with_reducible exact ih0 _ _)
      | (with_reducible exact ih1 _ _)
      | (with_reducible exact ih2 _ _ _)
      | (with_reducible exact canopyref1_Letters.mono _ _)
      | (with_reducible exact LeO.refl _)
      | (with_reducible exact LeO.none _)
      | (with_reducible refine LeO.ite ?_ ?_)
      | (with_reducible refine LeO.bind ?_ (fun _ => ?_))
      | exact ih0 _ _
      | exact ih1 _ _
      | exact ih2 _ _ _
      | exact canopyref1_Letters.mono _ _
      | exact LeO.none _
      | refine LeO.ite ?_ ?_
      | refine LeO.bind ?_ (fun _ => ?_)
    · intro y0 y1 y2
      unfold canopyref1_Check.l1
      repeat' first
      | (with_reducible exact ih0 _ _)
      | (with_reducible exact ih1 _ _)
      | (with_reducible exact ih2 _ _ _)
      | (with_reducible exact canopyref1_Letters.mono _ _)
      | (with_reducible exact LeO.refl _)
      | (with_reducible exact LeO.none _)
      | (with_reducible refine LeO.ite ?_ ?_)
      | (with_reducible refine LeO.bind ?_ (fun _ => ?_))
      | exact ih0 _ _
      | exact ih1 _ _
      | exact ih2 _ _ _
      | exact canopyref1_Letters.mono _ _
      | exact LeO.none _
      | refine LeO.ite ?_ ?_
      | refine LeO.bind ?_ (fun _ => ?_)
theorem canopyref1_Check.mono : ∀ a0 k, LeO (canopyref1_Check.f k a0) (canopyref1_Check.f (k + 1) a0) := by
  intro a0 k
  obtain ⟨ih0, ih1, ih2⟩ := canopyref1_Check.mono_l k
  unfold canopyref1_Check.f
  repeat' first
      | (with_reducible exact ih0 _ _)
      | (with_reducible exact ih1 _ _)
      | (with_reducible exact ih2 _ _ _)
      | (with_reducible exact canopyref1_Letters.mono _ _)
      | (with_reducible exact LeO.refl _)
      | (with_reducible exact LeO.none _)
      | (with_reducible refine LeO.ite ?_ ?_)
      | (with_reducible refine LeO.bind ?_ (fun _ => ?_))
      | exact ih0 _ _
      | exact ih1 _ _
      | exact ih2 _ _ _
      | exact canopyref1_Letters.mono _ _
      | exact LeO.none _
      | refine LeO.ite ?_ ?_
      | refine LeO.bind ?_ (fun _ => ?_)
set_option maxHeartbeats 8000000 in
set_option maxRecDepth 100000 in
theorem canopyref1_Check.calls (k : Nat) (A0 : Option Addr) (c0 : Nat) (l0 : List (S40)) (r : Int) (w : World) (hr0 : Kd.C k40 w A0 l0.length l0) (hc0 : l0.length ≤ c0) (h : canopyref1_Check.f k l0 = some r) :
    Calls Try.prog 24 #[.slice A0 l0.length c0] w fun e w' => e = .returned (.int .i64 r) ∧ Drawn0 w w' := by
  have hu40 := Try.underlying40
  have HR0 := Aside0.mk hr0
  have HC0 := Aside0.mk hc0
  clear hr0 hc0
  have H : (if (l0.length : Int) = 0 then (canopyref1_Check.j0 k l0 true) else (canopyref1_Check.j0 k l0 (decide ((l0.length : Int) > 20)))) = some r := h
  clear h
  have HC2 := Aside0.mk H
  clear H
  go_enter Try.func24, Try.ntmps24
  go_upto_region 1 with (fail)
  repeat (go_quiet (fail); go_upto_region 1 with (fail))
  go_cut [12] (fun v12 wc => ∃ (kq : Nat) (x12_1 : Bool), v12 = .bool x12_1 ∧ Aside0 (canopyref1_Check.j0 kq l0 x12_1 = some r) ∧ Aside0 (kq ≤ k) ∧ Drawn0 w wc)
  case first =>
    have H := HC2.out
    clear HC2
    by_cases c3 : (l0.length : Int) = 0
    · rw [if_pos c3] at H
      have c3b0 : ((l0.length : Int) == 0) = true := beq_iff_eq.mpr c3
      have c3b1 : ((l0.length : Int) != 0) = false := bne_eq_false_iff_eq.mpr c3
      clear c3
      (first | rw [c3b0] | (simp only [i64_w, i32_w]; rw [c3b0]) | skip)
      have H' := Aside0.mk H
      clear H
      go_wp2
      repeat (go_quiet (fail); try go_wp2)
      go_meet
      case rel => exact ⟨_, (true), (by first | rfl | (simp; done) | (simp [*]; done)), H', ⟨by first | omega | exact Nat.le_refl _⟩, by repeat (first | exact Drawn0.refl _ | apply Drawn0.step)⟩
    · rw [if_neg c3] at H
      have c3b0 : ((l0.length : Int) == 0) = false := beq_eq_false_iff_ne.mpr c3
      have c3b1 : ((l0.length : Int) != 0) = true := bne_iff_ne.mpr c3
      have c3b2 : ¬ (l0 = []) := fun h_ => c3 (by rw [h_]; rfl)
      (first | rw [c3b0] | (simp only [i64_w, i32_w]; rw [c3b0]) | skip)
      have H' := Aside0.mk H
      clear H
      go_wp2
      repeat (go_quiet (fail); try go_wp2)
      go_meet
      case rel => exact ⟨_, (decide ((l0.length : Int) > 20)), (by first | rfl | (simp; done) | (simp [*]; done)), H', ⟨by first | omega | exact Nat.le_refl _⟩, by repeat (first | exact Drawn0.refl _ | apply Drawn0.step)⟩
  case rest =>
    clear HC2
    try clear c2
    try clear p2
    try clear c3
    try clear c3b0
    try clear c3b1
    try clear c3b2
    obtain ⟨kq, x12_1, rfl, HA, HJ1, ⟨mc1, rfl⟩⟩ := hcut
    cases kq with
    | zero => exact absurd HA.out (by simp [canopyref1_Check.j0])
    | succ kj1 =>
      have H := HA.out
      clear HA
      simp only [canopyref1_Check.j0] at H
      by_cases c4 : x12_1 = true
      · subst c4
        have H1 : (some 2) = some r := by rw [if_pos rfl] at H; exact H
        clear H
        have H := H1
        clear H1
        obtain rfl := Option.some.inj H
        go_wp2
        repeat (go_quiet (fail); try go_wp2)
        go_ret
        exact ⟨by first | rfl | (simp; done) | (simp [*]; done), by repeat (first | exact Drawn0.refl _ | apply Drawn0.step)⟩
      · replace c4 := Bool.eq_false_iff.mpr c4
        subst c4
        have H1 : (canopyref1_Check.l0 kj1 l0 0) = some r := by rw [if_neg (show ¬ (false = true) by decide)] at H; exact H
        clear H
        have H := H1
        clear H1
        have H' := Aside0.mk H
        clear H
        go_wp2
        repeat (go_quiet (fail); try go_wp2)
        go_loopg [3] kj1 (fun kq v3 w' => ∃ (x3_2 : Int), v3 = .int .i64 x3_2 ∧ Aside0 (canopyref1_Check.l0 kq l0 x3_2 = some r) ∧ Aside0 (kq ≤ kj1) ∧ Drawn0 w w')
        case atStart => exact ⟨(0), (by first | rfl | (simp; done) | (simp [*]; done)), H', ⟨Nat.le_refl _⟩, by repeat (first | exact Drawn0.refl _ | apply Drawn0.step)⟩
        case round =>
          clear H'
          try clear c1
          try clear c2
          try clear p2
          try clear c3
          try clear c3b0
          try clear c3b1
          try clear c3b2
          try clear c4
          try clear p2
          obtain ⟨x3_2, rfl, HA, HK2, ⟨m2, rfl⟩⟩ := hrel
          cases gk with
          | zero => exact absurd HA.out (by simp [canopyref1_Check.l0])
          | succ k2 =>
            have H := HA.out
            clear HA
            simp only [canopyref1_Check.l0] at H
            by_cases c5 : x3_2 < (l0.length : Int)
            · rw [if_pos c5] at H
              have c5b0 : decide (x3_2 < (l0.length : Int)) = true := decide_eq_true c5
              clear c5
              by_cases c6 : 0 ≤ x3_2
              · rw [if_pos c6] at H
                have c6b0 : decide (0 ≤ x3_2) = true := decide_eq_true c6
                clear c6
                replace H := Option.bind_eq_some_iff.mp H
                obtain ⟨t300, A70, H⟩ := H
                replace H : (if t300 = true then (if ((rd_T40 l0 x3_2).f1) < 1 then (some 7) else (if ((rd_T40 l0 x3_2).f1) > 3 then (some 7) else (canopyref1_Check.l1 k2 l0 x3_2 0))) else (some 4)) = some r := H
                have A7 := Aside0.mk A70
                clear A70
                by_cases c8 : t300 = true
                · subst c8
                  have H1 : (if ((rd_T40 l0 x3_2).f1) < 1 then (some 7) else (if ((rd_T40 l0 x3_2).f1) > 3 then (some 7) else (canopyref1_Check.l1 k2 l0 x3_2 0))) = some r := by rw [if_pos rfl] at H; exact H
                  clear H
                  have H := H1
                  clear H1
                  by_cases c9 : ((rd_T40 l0 x3_2).f1) < 1
                  · rw [if_pos c9] at H
                    have c9b0 : decide (((rd_T40 l0 x3_2).f1) < 1) = true := decide_eq_true c9
                    clear c9
                    obtain rfl := Option.some.inj H
                    have p299 : 0 ≤ (x3_2 : Int) := of_decide_eq_true (by first | (with_reducible assumption) | assumption)
                    have q299 : x3_2 < (l0.length : Int) := of_decide_eq_true (by first | (with_reducible assumption) | assumption)
                    obtain ⟨ad299, e299, hx299_0, hx299_1⟩ := at_T40 HR0.out x3_2 p299 q299
                    cases e299
                    replace p299 := eq_true p299
                    replace q299 := eq_true q299
                    go_wp2_with (first | (go_at_call 39; (with_reducible refine (canopyref1_Letters.calls k2 ((rd_T40 l0 x3_2).f0) true _ A7.out).mono ?_); rintro e w' ⟨rfl, ⟨nd, rfl⟩⟩; (try first | exact ⟨rfl, _, World.drewN_drewN _ _ _⟩ | exact ⟨rfl, _, Eq.trans (World.drewN_drewN _ _ _) (congrArg (World.drewN _) (Nat.add_assoc _ _ _))⟩); have p301 : 0 ≤ (x3_2 : Int) := of_decide_eq_true (by first | (with_reducible assumption) | assumption); have q301 : x3_2 < (l0.length : Int) := of_decide_eq_true (by first | (with_reducible assumption) | assumption); obtain ⟨ad301, e301, hx301_0, hx301_1⟩ := at_T40 HR0.out x3_2 p301 q301; obtain rfl : ad299 = ad301 := (by injection e301); replace p301 := eq_true p301; replace q301 := eq_true q301))
                    repeat (go_quiet (first | (go_at_call 39; (with_reducible refine (canopyref1_Letters.calls k2 ((rd_T40 l0 x3_2).f0) true _ A7.out).mono ?_); rintro e w' ⟨rfl, ⟨nd, rfl⟩⟩; (try first | exact ⟨rfl, _, World.drewN_drewN _ _ _⟩ | exact ⟨rfl, _, Eq.trans (World.drewN_drewN _ _ _) (congrArg (World.drewN _) (Nat.add_assoc _ _ _))⟩); have p301 : 0 ≤ (x3_2 : Int) := of_decide_eq_true (by first | (with_reducible assumption) | assumption); have q301 : x3_2 < (l0.length : Int) := of_decide_eq_true (by first | (with_reducible assumption) | assumption); obtain ⟨ad301, e301, hx301_0, hx301_1⟩ := at_T40 HR0.out x3_2 p301 q301; obtain rfl : ad299 = ad301 := (by injection e301); replace p301 := eq_true p301; replace q301 := eq_true q301)); try go_wp2_with (first | (go_at_call 39; (with_reducible refine (canopyref1_Letters.calls k2 ((rd_T40 l0 x3_2).f0) true _ A7.out).mono ?_); rintro e w' ⟨rfl, ⟨nd, rfl⟩⟩; (try first | exact ⟨rfl, _, World.drewN_drewN _ _ _⟩ | exact ⟨rfl, _, Eq.trans (World.drewN_drewN _ _ _) (congrArg (World.drewN _) (Nat.add_assoc _ _ _))⟩); have p301 : 0 ≤ (x3_2 : Int) := of_decide_eq_true (by first | (with_reducible assumption) | assumption); have q301 : x3_2 < (l0.length : Int) := of_decide_eq_true (by first | (with_reducible assumption) | assumption); obtain ⟨ad301, e301, hx301_0, hx301_1⟩ := at_T40 HR0.out x3_2 p301 q301; obtain rfl : ad299 = ad301 := (by injection e301); replace p301 := eq_true p301; replace q301 := eq_true q301)))
                    go_ret
                    exact ⟨by first | rfl | (simp; done) | (simp [*]; done), by repeat (first | exact Drawn0.refl _ | apply Drawn0.step)⟩
                  · rw [if_neg c9] at H
                    have c9b0 : decide (((rd_T40 l0 x3_2).f1) < 1) = false := decide_eq_false c9
                    clear c9
                    by_cases c10 : ((rd_T40 l0 x3_2).f1) > 3
                    · rw [if_pos c10] at H
                      have c10b0 : decide (3 < ((rd_T40 l0 x3_2).f1)) = true := decide_eq_true c10
                      clear c10
                      obtain rfl := Option.some.inj H
                      have p299 : 0 ≤ (x3_2 : Int) := of_decide_eq_true (by first | (with_reducible assumption) | assumption)
                      have q299 : x3_2 < (l0.length : Int) := of_decide_eq_true (by first | (with_reducible assumption) | assumption)
                      obtain ⟨ad299, e299, hx299_0, hx299_1⟩ := at_T40 HR0.out x3_2 p299 q299
                      cases e299
                      replace p299 := eq_true p299
                      replace q299 := eq_true q299
                      go_wp2_with (first | (go_at_call 39; (with_reducible refine (canopyref1_Letters.calls k2 ((rd_T40 l0 x3_2).f0) true _ A7.out).mono ?_); rintro e w' ⟨rfl, ⟨nd, rfl⟩⟩; (try first | exact ⟨rfl, _, World.drewN_drewN _ _ _⟩ | exact ⟨rfl, _, Eq.trans (World.drewN_drewN _ _ _) (congrArg (World.drewN _) (Nat.add_assoc _ _ _))⟩); have p301 : 0 ≤ (x3_2 : Int) := of_decide_eq_true (by first | (with_reducible assumption) | assumption); have q301 : x3_2 < (l0.length : Int) := of_decide_eq_true (by first | (with_reducible assumption) | assumption); obtain ⟨ad301, e301, hx301_0, hx301_1⟩ := at_T40 HR0.out x3_2 p301 q301; obtain rfl : ad299 = ad301 := (by injection e301); replace p301 := eq_true p301; replace q301 := eq_true q301; have p302 : 0 ≤ (x3_2 : Int) := of_decide_eq_true (by first | (with_reducible assumption) | assumption); have q302 : x3_2 < (l0.length : Int) := of_decide_eq_true (by first | (with_reducible assumption) | assumption); obtain ⟨ad302, e302, hx302_0, hx302_1⟩ := at_T40 HR0.out x3_2 p302 q302; obtain rfl : ad299 = ad302 := (by injection e302); replace p302 := eq_true p302; replace q302 := eq_true q302))
                      repeat (go_quiet (first | (go_at_call 39; (with_reducible refine (canopyref1_Letters.calls k2 ((rd_T40 l0 x3_2).f0) true _ A7.out).mono ?_); rintro e w' ⟨rfl, ⟨nd, rfl⟩⟩; (try first | exact ⟨rfl, _, World.drewN_drewN _ _ _⟩ | exact ⟨rfl, _, Eq.trans (World.drewN_drewN _ _ _) (congrArg (World.drewN _) (Nat.add_assoc _ _ _))⟩); have p301 : 0 ≤ (x3_2 : Int) := of_decide_eq_true (by first | (with_reducible assumption) | assumption); have q301 : x3_2 < (l0.length : Int) := of_decide_eq_true (by first | (with_reducible assumption) | assumption); obtain ⟨ad301, e301, hx301_0, hx301_1⟩ := at_T40 HR0.out x3_2 p301 q301; obtain rfl : ad299 = ad301 := (by injection e301); replace p301 := eq_true p301; replace q301 := eq_true q301; have p302 : 0 ≤ (x3_2 : Int) := of_decide_eq_true (by first | (with_reducible assumption) | assumption); have q302 : x3_2 < (l0.length : Int) := of_decide_eq_true (by first | (with_reducible assumption) | assumption); obtain ⟨ad302, e302, hx302_0, hx302_1⟩ := at_T40 HR0.out x3_2 p302 q302; obtain rfl : ad299 = ad302 := (by injection e302); replace p302 := eq_true p302; replace q302 := eq_true q302)); try go_wp2_with (first | (go_at_call 39; (with_reducible refine (canopyref1_Letters.calls k2 ((rd_T40 l0 x3_2).f0) true _ A7.out).mono ?_); rintro e w' ⟨rfl, ⟨nd, rfl⟩⟩; (try first | exact ⟨rfl, _, World.drewN_drewN _ _ _⟩ | exact ⟨rfl, _, Eq.trans (World.drewN_drewN _ _ _) (congrArg (World.drewN _) (Nat.add_assoc _ _ _))⟩); have p301 : 0 ≤ (x3_2 : Int) := of_decide_eq_true (by first | (with_reducible assumption) | assumption); have q301 : x3_2 < (l0.length : Int) := of_decide_eq_true (by first | (with_reducible assumption) | assumption); obtain ⟨ad301, e301, hx301_0, hx301_1⟩ := at_T40 HR0.out x3_2 p301 q301; obtain rfl : ad299 = ad301 := (by injection e301); replace p301 := eq_true p301; replace q301 := eq_true q301; have p302 : 0 ≤ (x3_2 : Int) := of_decide_eq_true (by first | (with_reducible assumption) | assumption); have q302 : x3_2 < (l0.length : Int) := of_decide_eq_true (by first | (with_reducible assumption) | assumption); obtain ⟨ad302, e302, hx302_0, hx302_1⟩ := at_T40 HR0.out x3_2 p302 q302; obtain rfl : ad299 = ad302 := (by injection e302); replace p302 := eq_true p302; replace q302 := eq_true q302)))
                      go_ret
                      exact ⟨by first | rfl | (simp; done) | (simp [*]; done), by repeat (first | exact Drawn0.refl _ | apply Drawn0.step)⟩
                    · rw [if_neg c10] at H
                      have c10b0 : decide (3 < ((rd_T40 l0 x3_2).f1)) = false := decide_eq_false c10
                      clear c10
                      have H' := Aside0.mk H
                      clear H
                      have p299 : 0 ≤ (x3_2 : Int) := of_decide_eq_true (by first | (with_reducible assumption) | assumption)
                      have q299 : x3_2 < (l0.length : Int) := of_decide_eq_true (by first | (with_reducible assumption) | assumption)
                      obtain ⟨ad299, e299, hx299_0, hx299_1⟩ := at_T40 HR0.out x3_2 p299 q299
                      cases e299
                      replace p299 := eq_true p299
                      replace q299 := eq_true q299
                      go_wp2_with (first | (go_at_call 39; (with_reducible refine (canopyref1_Letters.calls k2 ((rd_T40 l0 x3_2).f0) true _ A7.out).mono ?_); rintro e w' ⟨rfl, ⟨nd, rfl⟩⟩; (try first | exact ⟨rfl, _, World.drewN_drewN _ _ _⟩ | exact ⟨rfl, _, Eq.trans (World.drewN_drewN _ _ _) (congrArg (World.drewN _) (Nat.add_assoc _ _ _))⟩); have p301 : 0 ≤ (x3_2 : Int) := of_decide_eq_true (by first | (with_reducible assumption) | assumption); have q301 : x3_2 < (l0.length : Int) := of_decide_eq_true (by first | (with_reducible assumption) | assumption); obtain ⟨ad301, e301, hx301_0, hx301_1⟩ := at_T40 HR0.out x3_2 p301 q301; obtain rfl : ad299 = ad301 := (by injection e301); replace p301 := eq_true p301; replace q301 := eq_true q301; have p302 : 0 ≤ (x3_2 : Int) := of_decide_eq_true (by first | (with_reducible assumption) | assumption); have q302 : x3_2 < (l0.length : Int) := of_decide_eq_true (by first | (with_reducible assumption) | assumption); obtain ⟨ad302, e302, hx302_0, hx302_1⟩ := at_T40 HR0.out x3_2 p302 q302; obtain rfl : ad299 = ad302 := (by injection e302); replace p302 := eq_true p302; replace q302 := eq_true q302))
                      repeat (go_quiet (first | (go_at_call 39; (with_reducible refine (canopyref1_Letters.calls k2 ((rd_T40 l0 x3_2).f0) true _ A7.out).mono ?_); rintro e w' ⟨rfl, ⟨nd, rfl⟩⟩; (try first | exact ⟨rfl, _, World.drewN_drewN _ _ _⟩ | exact ⟨rfl, _, Eq.trans (World.drewN_drewN _ _ _) (congrArg (World.drewN _) (Nat.add_assoc _ _ _))⟩); have p301 : 0 ≤ (x3_2 : Int) := of_decide_eq_true (by first | (with_reducible assumption) | assumption); have q301 : x3_2 < (l0.length : Int) := of_decide_eq_true (by first | (with_reducible assumption) | assumption); obtain ⟨ad301, e301, hx301_0, hx301_1⟩ := at_T40 HR0.out x3_2 p301 q301; obtain rfl : ad299 = ad301 := (by injection e301); replace p301 := eq_true p301; replace q301 := eq_true q301; have p302 : 0 ≤ (x3_2 : Int) := of_decide_eq_true (by first | (with_reducible assumption) | assumption); have q302 : x3_2 < (l0.length : Int) := of_decide_eq_true (by first | (with_reducible assumption) | assumption); obtain ⟨ad302, e302, hx302_0, hx302_1⟩ := at_T40 HR0.out x3_2 p302 q302; obtain rfl : ad299 = ad302 := (by injection e302); replace p302 := eq_true p302; replace q302 := eq_true q302)); try go_wp2_with (first | (go_at_call 39; (with_reducible refine (canopyref1_Letters.calls k2 ((rd_T40 l0 x3_2).f0) true _ A7.out).mono ?_); rintro e w' ⟨rfl, ⟨nd, rfl⟩⟩; (try first | exact ⟨rfl, _, World.drewN_drewN _ _ _⟩ | exact ⟨rfl, _, Eq.trans (World.drewN_drewN _ _ _) (congrArg (World.drewN _) (Nat.add_assoc _ _ _))⟩); have p301 : 0 ≤ (x3_2 : Int) := of_decide_eq_true (by first | (with_reducible assumption) | assumption); have q301 : x3_2 < (l0.length : Int) := of_decide_eq_true (by first | (with_reducible assumption) | assumption); obtain ⟨ad301, e301, hx301_0, hx301_1⟩ := at_T40 HR0.out x3_2 p301 q301; obtain rfl : ad299 = ad301 := (by injection e301); replace p301 := eq_true p301; replace q301 := eq_true q301; have p302 : 0 ≤ (x3_2 : Int) := of_decide_eq_true (by first | (with_reducible assumption) | assumption); have q302 : x3_2 < (l0.length : Int) := of_decide_eq_true (by first | (with_reducible assumption) | assumption); obtain ⟨ad302, e302, hx302_0, hx302_1⟩ := at_T40 HR0.out x3_2 p302 q302; obtain rfl : ad299 = ad302 := (by injection e302); replace p302 := eq_true p302; replace q302 := eq_true q302)))
                      go_loopg [4] k2 (fun kq v4 w' => ∃ (x4_3 : Int), v4 = .int .i64 x4_3 ∧ Aside0 (canopyref1_Check.l1 kq l0 x3_2 x4_3 = some r) ∧ Aside0 (kq ≤ k2) ∧ Drawn0 w w')
                      case atStart => exact ⟨(0), (by first | rfl | (simp; done) | (simp [*]; done)), H', ⟨Nat.le_refl _⟩, by repeat (first | exact Drawn0.refl _ | apply Drawn0.step)⟩
                      case round =>
                        clear H'
                        try clear c1
                        try clear c2
                        try clear p2
                        try clear q2
                        try clear hx2
                        try clear c3
                        try clear c3b0
                        try clear c3b1
                        try clear c3b2
                        try clear p3
                        try clear q3
                        try clear hx3
                        try clear c4
                        try clear c5
                        try clear c5b0
                        try clear c6
                        try clear c6b0
                        try clear c8
                        try clear c9
                        try clear c9b0
                        try clear c10
                        try clear c10b0
                        try clear hx299_0
                        try clear hx299_1
                        try clear hx301_0
                        try clear hx301_1
                        try clear hx302_0
                        try clear hx302_1
                        try clear p2
                        try clear p299
                        try clear p301
                        try clear p302
                        try clear q299
                        try clear q301
                        try clear q302
                        obtain ⟨x4_3, rfl, HA, HK3, ⟨m3, rfl⟩⟩ := hrel
                        cases gk with
                        | zero => exact absurd HA.out (by simp [canopyref1_Check.l1])
                        | succ k3 =>
                          have H := HA.out
                          clear HA
                          simp only [canopyref1_Check.l1] at H
                          by_cases c11 : x4_3 < x3_2
                          · rw [if_pos c11] at H
                            have c11b0 : decide (x4_3 < x3_2) = true := decide_eq_true c11
                            clear c11
                            by_cases c12 : 0 ≤ x4_3
                            · rw [if_pos c12] at H
                              have c12b0 : decide (0 ≤ x4_3) = true := decide_eq_true c12
                              clear c12
                              by_cases c13 : x4_3 < (l0.length : Int)
                              · rw [if_pos c13] at H
                                have c13b0 : decide (x4_3 < (l0.length : Int)) = true := decide_eq_true c13
                                clear c13
                                by_cases c14 : 0 ≤ x3_2
                                · rw [if_pos c14] at H
                                  have c14b0 : decide (0 ≤ x3_2) = true := decide_eq_true c14
                                  clear c14
                                  by_cases c15 : x3_2 < (l0.length : Int)
                                  · rw [if_pos c15] at H
                                    have c15b0 : decide (x3_2 < (l0.length : Int)) = true := decide_eq_true c15
                                    clear c15
                                    by_cases c16 : ((((rd_T40 l0 x4_3).f0).toList) == (((rd_T40 l0 x3_2).f0).toList) && (((rd_T40 l0 x4_3).f1) == ((rd_T40 l0 x3_2).f1))) = true
                                    · rw [if_pos c16] at H
                                      have c16b0 : ((((rd_T40 l0 x4_3).f0).toList) == (((rd_T40 l0 x3_2).f0).toList) && (((rd_T40 l0 x4_3).f1) == ((rd_T40 l0 x3_2).f1))) = true := c16
                                      (try (have c16b1 : decide ((((rd_T40 l0 x4_3).f0).toList) = (((rd_T40 l0 x3_2).f0).toList) && (((rd_T40 l0 x4_3).f1) == ((rd_T40 l0 x3_2).f1))) = true := by simpa using c16))
                                      (try (have c16b2 : ((((rd_T40 l0 x4_3).f0).toList) == (((rd_T40 l0 x3_2).f0).toList) && (((rd_T40 l0 x4_3).f1) == ((rd_T40 l0 x3_2).f1))) = true := by simpa using c16))
                                      clear c16
                                      obtain rfl := Option.some.inj H
                                      have p303 : 0 ≤ (x4_3 : Int) := of_decide_eq_true (by first | (with_reducible assumption) | assumption)
                                      have q303 : x4_3 < (l0.length : Int) := of_decide_eq_true (by first | (with_reducible assumption) | assumption)
                                      obtain ⟨ad303, e303, hx303_0, hx303_1⟩ := at_T40 HR0.out x4_3 p303 q303
                                      obtain rfl : ad299 = ad303 := (by injection e303)
                                      replace p303 := eq_true p303
                                      replace q303 := eq_true q303
                                      have p304 : 0 ≤ (x3_2 : Int) := of_decide_eq_true (by first | (with_reducible assumption) | assumption)
                                      have q304 : x3_2 < (l0.length : Int) := of_decide_eq_true (by first | (with_reducible assumption) | assumption)
                                      obtain ⟨ad304, e304, hx304_0, hx304_1⟩ := at_T40 HR0.out x3_2 p304 q304
                                      obtain rfl : ad299 = ad304 := (by injection e304)
                                      replace p304 := eq_true p304
                                      replace q304 := eq_true q304
                                      go_wp2
                                      repeat (go_quiet (fail); try go_wp2)
                                      go_ret
                                      exact ⟨by first | rfl | (simp; done) | (simp [*]; done), by repeat (first | exact Drawn0.refl _ | apply Drawn0.step)⟩
                                    · rw [if_neg c16] at H
                                      have c16b0 : ((((rd_T40 l0 x4_3).f0).toList) == (((rd_T40 l0 x3_2).f0).toList) && (((rd_T40 l0 x4_3).f1) == ((rd_T40 l0 x3_2).f1))) = false := by simpa using c16
                                      (try (have c16b1 : decide ((((rd_T40 l0 x4_3).f0).toList) = (((rd_T40 l0 x3_2).f0).toList) && (((rd_T40 l0 x4_3).f1) == ((rd_T40 l0 x3_2).f1))) = false := by simpa using c16))
                                      (try (have c16b2 : ((((rd_T40 l0 x4_3).f0).toList) == (((rd_T40 l0 x3_2).f0).toList) && (((rd_T40 l0 x4_3).f1) == ((rd_T40 l0 x3_2).f1))) = false := by simpa using c16))
                                      (try (have c16b3 : ¬ ((((rd_T40 l0 x4_3).f0).toList) = (((rd_T40 l0 x3_2).f0).toList) && (((rd_T40 l0 x4_3).f1) == ((rd_T40 l0 x3_2).f1))) := by simpa using c16))
                                      clear c16
                                      have H' := Aside0.mk H
                                      clear H
                                      have p303 : 0 ≤ (x4_3 : Int) := of_decide_eq_true (by first | (with_reducible assumption) | assumption)
                                      have q303 : x4_3 < (l0.length : Int) := of_decide_eq_true (by first | (with_reducible assumption) | assumption)
                                      obtain ⟨ad303, e303, hx303_0, hx303_1⟩ := at_T40 HR0.out x4_3 p303 q303
                                      obtain rfl : ad299 = ad303 := (by injection e303)
                                      replace p303 := eq_true p303
                                      replace q303 := eq_true q303
                                      have p304 : 0 ≤ (x3_2 : Int) := of_decide_eq_true (by first | (with_reducible assumption) | assumption)
                                      have q304 : x3_2 < (l0.length : Int) := of_decide_eq_true (by first | (with_reducible assumption) | assumption)
                                      obtain ⟨ad304, e304, hx304_0, hx304_1⟩ := at_T40 HR0.out x3_2 p304 q304
                                      obtain rfl : ad299 = ad304 := (by injection e304)
                                      replace p304 := eq_true p304
                                      replace q304 := eq_true q304
                                      go_wp2
                                      repeat (go_quiet (fail); try go_wp2)
                                      go_roundg k3
                                      case measure => have := HJ1.out; have := HK2.out; have := HK3.out; omega
                                      case rel => exact ⟨(wrap64 (x4_3 + 1)), (by first | rfl | (simp; done) | (simp [*]; done)), H', ⟨by have := HJ1.out; have := HK2.out; have := HK3.out; omega⟩, by repeat (first | exact Drawn0.refl _ | apply Drawn0.step)⟩
                                  · rw [if_neg c15] at H
                                    exact absurd H (by simp)
                                · rw [if_neg c14] at H
                                  exact absurd H (by simp)
                              · rw [if_neg c13] at H
                                exact absurd H (by simp)
                            · rw [if_neg c12] at H
                              exact absurd H (by simp)
                          · rw [if_neg c11] at H
                            have c11b0 : decide (x4_3 < x3_2) = false := decide_eq_false c11
                            clear c11
                            have H' := Aside0.mk H
                            clear H
                            go_wp2
                            repeat (go_quiet (fail); try go_wp2)
                            go_roundg k3
                            case measure => have := HJ1.out; have := HK2.out; have := HK3.out; omega
                            case rel => exact ⟨(wrap64 (x3_2 + 1)), (by first | rfl | (simp; done) | (simp [*]; done)), H', ⟨by have := HJ1.out; have := HK2.out; have := HK3.out; omega⟩, by repeat (first | exact Drawn0.refl _ | apply Drawn0.step)⟩
                · replace c8 := Bool.eq_false_iff.mpr c8
                  subst c8
                  have H1 : (some 4) = some r := by rw [if_neg (show ¬ (false = true) by decide)] at H; exact H
                  clear H
                  have H := H1
                  clear H1
                  obtain rfl := Option.some.inj H
                  have p299 : 0 ≤ (x3_2 : Int) := of_decide_eq_true (by first | (with_reducible assumption) | assumption)
                  have q299 : x3_2 < (l0.length : Int) := of_decide_eq_true (by first | (with_reducible assumption) | assumption)
                  obtain ⟨ad299, e299, hx299_0, hx299_1⟩ := at_T40 HR0.out x3_2 p299 q299
                  cases e299
                  replace p299 := eq_true p299
                  replace q299 := eq_true q299
                  go_wp2_with (first | (go_at_call 39; (with_reducible refine (canopyref1_Letters.calls k2 ((rd_T40 l0 x3_2).f0) false _ A7.out).mono ?_); rintro e w' ⟨rfl, ⟨nd, rfl⟩⟩; (try first | exact ⟨rfl, _, World.drewN_drewN _ _ _⟩ | exact ⟨rfl, _, Eq.trans (World.drewN_drewN _ _ _) (congrArg (World.drewN _) (Nat.add_assoc _ _ _))⟩)))
                  repeat (go_quiet (first | (go_at_call 39; (with_reducible refine (canopyref1_Letters.calls k2 ((rd_T40 l0 x3_2).f0) false _ A7.out).mono ?_); rintro e w' ⟨rfl, ⟨nd, rfl⟩⟩; (try first | exact ⟨rfl, _, World.drewN_drewN _ _ _⟩ | exact ⟨rfl, _, Eq.trans (World.drewN_drewN _ _ _) (congrArg (World.drewN _) (Nat.add_assoc _ _ _))⟩))); try go_wp2_with (first | (go_at_call 39; (with_reducible refine (canopyref1_Letters.calls k2 ((rd_T40 l0 x3_2).f0) false _ A7.out).mono ?_); rintro e w' ⟨rfl, ⟨nd, rfl⟩⟩; (try first | exact ⟨rfl, _, World.drewN_drewN _ _ _⟩ | exact ⟨rfl, _, Eq.trans (World.drewN_drewN _ _ _) (congrArg (World.drewN _) (Nat.add_assoc _ _ _))⟩))))
                  go_ret
                  exact ⟨by first | rfl | (simp; done) | (simp [*]; done), by repeat (first | exact Drawn0.refl _ | apply Drawn0.step)⟩
              · rw [if_neg c6] at H
                exact absurd H (by simp)
            · rw [if_neg c5] at H
              have c5b0 : decide (x3_2 < (l0.length : Int)) = false := decide_eq_false c5
              clear c5
              obtain rfl := Option.some.inj H
              go_wp2
              repeat (go_quiet (fail); try go_wp2)
              go_ret
              exact ⟨by first | rfl | (simp; done) | (simp [*]; done), by repeat (first | exact Drawn0.refl _ | apply Drawn0.step)⟩

end Go.Proofs.Ytiibfkjfanglbaa.P
