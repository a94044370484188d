-- written by pp.py (wip/tools of this session's repo) out of the seat's translation
import Derived.Test.YtiibfkjfanglbaaPx0
import Derived.Test.YtiibfkjfanglbaaPx9
import Derived.Test.YtiibfkjfanglbaaPx10
namespace Go.Proofs.Ytiibfkjfanglbaa.P
open Go.RowKit Go.Proofs.YtiibfkjfanglbaaW.PrintWords Go.Proofs.YtiibfkjfanglbaaW.PrintLast Go.Proofs.YtiibfkjfanglbaaW.PrintMore
attribute [local go_sem] max2_int min2_int max_two min_two max_three min_three max_four min_four   -- for this text's walks alone
set_option linter.unusedVariables false
set_option linter.unusedSimpArgs false

attribute [local go_sem] Exit.jump_normal_Ytiibfkjfanglbaa Exit.jump_exit_Ytiibfkjfanglbaa Exit.jump_ret_Ytiibfkjfanglbaa Exit.jump_panic_Ytiibfkjfanglbaa
/-! ### word_Parse: function 17 -/
mutual
def word_Parse.l0 : Nat → List (S40) → ByteArray → List Int → Int → Option (List Int × Int × Int)
  | 0, _, _, _, _ => none
  | k + 1, x0, x1, x7, x8 => word_Parse.l1 k x0 x1 x7 x8
def word_Parse.j2 : Nat → List (S40) → ByteArray → List Int → Int → Option (List Int × Int × Int)
  | 0, _, _, _, _ => none
  | k + 1, x0, x1, x7, x8 => if x8 = (x1.size : Int) then (some ((x7.take ((x7.length : Int) : Int).toNat), 0, 0)) else (word_Parse.l2 k x0 x1 x7 x8 x8)
def word_Parse.j4 : Nat → List (S40) → ByteArray → List Int → Int → Int → Option (List Int × Int × Int)
  | 0, _, _, _, _, _ => none
  | k + 1, x0, x1, x7, x8, x9 => if 0 ≤ x8 then (if x8 ≤ x9 then (if x9 ≤ (x1.size : Int) then ((word_sym.f k (x1.extract (x8 : Int).toNat (x9 : Int).toNat)).bind fun bt152 => ((word_place.f k x0 bt152.1 bt152.2).bind fun t155 => (if bt152.2 = 0 then (some (([] : List Int), x8, 1)) else (if t155 < 0 then (some (([] : List Int), x8, 6)) else (if x7.length < 17592186044416 then (word_Parse.l0 k x0 x1 (x7 ++ [t155]) x9) else (none)))))) else (none)) else (none)) else (none)
def word_Parse.l2 : Nat → List (S40) → ByteArray → List Int → Int → Int → Option (List Int × Int × Int)
  | 0, _, _, _, _, _ => none
  | k + 1, x0, x1, x7, x8, x9 => if x9 < (x1.size : Int) then (if 0 ≤ x9 then (if (bt x1 x9) = 32 then (word_Parse.j4 k x0 x1 x7 x8 x9) else (word_Parse.l2 k x0 x1 x7 x8 (wrap64 (x9 + 1)))) else (none)) else (word_Parse.j4 k x0 x1 x7 x8 x9)
def word_Parse.l1 : Nat → List (S40) → ByteArray → List Int → Int → Option (List Int × Int × Int)
  | 0, _, _, _, _ => none
  | k + 1, x0, x1, x7, x8 => if x8 < (x1.size : Int) then (if 0 ≤ x8 then (if (bt x1 x8) = 32 then (word_Parse.l1 k x0 x1 x7 (wrap64 (x8 + 1))) else (word_Parse.j2 k x0 x1 x7 x8)) else (none)) else (word_Parse.j2 k x0 x1 x7 x8)
end
def word_Parse.f (k : Nat) (l0 : List (S40)) (a1 : ByteArray) : Option (List Int × Int × Int) := if (a1.size : Int) > 2000 then (some (([] : List Int), 0, 2)) else (word_Parse.l0 k l0 a1 ([] : List Int) 0)
theorem word_Parse.mono_l : ∀ k, (∀ y0 y1 y2 y3, LeO (word_Parse.l0 k y0 y1 y2 y3) (word_Parse.l0 (k + 1) y0 y1 y2 y3)) ∧ (∀ y0 y1 y2 y3, LeO (word_Parse.j2 k y0 y1 y2 y3) (word_Parse.j2 (k + 1) y0 y1 y2 y3)) ∧ (∀ y0 y1 y2 y3 y4, LeO (word_Parse.j4 k y0 y1 y2 y3 y4) (word_Parse.j4 (k + 1) y0 y1 y2 y3 y4)) ∧ (∀ y0 y1 y2 y3 y4, LeO (word_Parse.l2 k y0 y1 y2 y3 y4) (word_Parse.l2 (k + 1) y0 y1 y2 y3 y4)) ∧ (∀ y0 y1 y2 y3, LeO (word_Parse.l1 k y0 y1 y2 y3) (word_Parse.l1 (k + 1) y0 y1 y2 y3))
  | 0 => ⟨fun _ _ _ _ r h => by simp [word_Parse.l0] at h, fun _ _ _ _ r h => by simp [word_Parse.j2] at h, fun _ _ _ _ _ r h => by simp [word_Parse.j4] at h, fun _ _ _ _ _ r h => by simp [word_Parse.l2] at h, fun _ _ _ _ r h => by simp [word_Parse.l1] at h⟩
  | k + 1 => by
    obtain ⟨ih0, ih1, ih2, ih3, ih4⟩ := word_Parse.mono_l k
    refine ⟨?_, ?_, ?_, ?_, ?_⟩
    · intro y0 y1 y2 y3
      unfold word_Parse.l0
      repeat' first
      | (with_reducible exact ih0 _ _ _ _)
      | (with_reducible exact ih1 _ _ _ _)
      | (with_reducible exact ih2 _ _ _ _ _)
      | (with_reducible exact ih3 _ _ _ _ _)
      | (with_reducible exact ih4 _ _ _ _)
      | (with_reducible exact word_place.mono _ _ _ _)
      | (with_reducible exact word_sym.mono _ _)
      | (with_reducible exact LeO.refl _)
      | (with_reducible exact LeO.none _)
      | (with_reducible refine LeO.ite ?_ ?_)
      | (with_reducible refine LeO.bind ?_ (fun _ => ?_))
      | exact ih0 _ _ _ _
      | exact ih1 _ _ _ _
      | exact ih2 _ _ _ _ _
      | exact ih3 _ _ _ _ _
      | exact ih4 _ _ _ _
      | exact word_place.mono _ _ _ _
      | exact word_sym.mono _ _
      | exact LeO.none _
      | refine LeO.ite ?_ ?_
      | refine LeO.bind ?_ (fun _ => ?_)
    · intro y0 y1 y2 y3
      unfold word_Parse.j2
      repeat' first
      | (with_reducible exact ih0 _ _ _ _)
      | (with_reducible exact ih1 _ _ _ _)
      | (with_reducible exact ih2 _ _ _ _ _)
      | (with_reducible exact ih3 _ _ _ _ _)
      | (with_reducible exact ih4 _ _ _ _)
      | (with_reducible exact word_place.mono _ _ _ _)
      | (with_reducible exact word_sym.mono _ _)
      | (with_reducible exact LeO.refl _)
      | (with_reducible exact LeO.none _)
      | (with_reducible refine LeO.ite ?_ ?_)
      | (with_reducible refine LeO.bind ?_ (fun _ => ?_))
      | exact ih0 _ _ _ _
      | exact ih1 _ _ _ _
      | exact ih2 _ _ _ _ _
      | exact ih3 _ _ _ _ _
      | exact ih4 _ _ _ _
      | exact word_place.mono _ _ _ _
      | exact word_sym.mono _ _
      | exact LeO.none _
      | refine LeO.ite ?_ ?_
      | refine LeO.bind ?_ (fun _ => ?_)
    · intro y0 y1 y2 y3 y4
      unfold word_Parse.j4
      repeat' first
      | (with_reducible exact ih0 _ _ _ _)
      | (with_reducible exact ih1 _ _ _ _)
      | (with_reducible exact ih2 _ _ _ _ _)
      | (with_reducible exact ih3 _ _ _ _ _)
      | (with_reducible exact ih4 _ _ _ _)
      | (with_reducible exact word_place.mono _ _ _ _)
      | (with_reducible exact word_sym.mono _ _)
      | (with_reducible exact LeO.refl _)
      | (with_reducible exact LeO.none _)
      | (with_reducible refine LeO.ite ?_ ?_)
      | (with_reducible refine LeO.bind ?_ (fun _ => ?_))
      | exact ih0 _ _ _ _
      | exact ih1 _ _ _ _
      | exact ih2 _ _ _ _ _
      | exact ih3 _ _ _ _ _
      | exact ih4 _ _ _ _
      | exact word_place.mono _ _ _ _
      | exact word_sym.mono _ _
      | exact LeO.none _
      | refine LeO.ite ?_ ?_
      | refine LeO.bind ?_ (fun _ => ?_)
    · intro y0 y1 y2 y3 y4
      unfold word_Parse.l2
      repeat' first
      | (with_reducible exact ih0 _ _ _ _)
      | (with_reducible exact ih1 _ _ _ _)
      | (with_reducible exact ih2 _ _ _ _ _)
      | (with_reducible exact ih3 _ _ _ _ _)
      | (with_reducible exact ih4 _ _ _ _)
      | (with_reducible exact word_place.mono _ _ _ _)
      | (with_reducible exact word_sym.mono _ _)
      | (with_reducible exact LeO.refl _)
      | (with_reducible exact LeO.none _)
      | (with_reducible refine LeO.ite ?_ ?_)
      | (with_reducible refine LeO.bind ?_ (fun _ => ?_))
      | exact ih0 _ _ _ _
      | exact ih1 _ _ _ _
      | exact ih2 _ _ _ _ _
      | exact ih3 _ _ _ _ _
      | exact ih4 _ _ _ _
      | exact word_place.mono _ _ _ _
      | exact word_sym.mono _ _
      | exact LeO.none _
      | refine LeO.ite ?_ ?_
      | refine LeO.bind ?_ (fun _ => ?_)
    · intro y0 y1 y2 y3
      unfold word_Parse.l1
      repeat' first
      | (with_reducible exact ih0 _ _ _ _)
      | (with_reducible exact ih1 _ _ _ _)
      | (with_reducible exact ih2 _ _ _ _ _)
      | (with_reducible exact ih3 _ _ _ _ _)
      | (with_reducible exact ih4 _ _ _ _)
      | (with_reducible exact word_place.mono _ _ _ _)
      | (with_reducible exact word_sym.mono _ _)
      | (with_reducible exact LeO.refl _)
      | (with_reducible exact LeO.none _)
      | (with_reducible refine LeO.ite ?_ ?_)
      | (with_reducible refine LeO.bind ?_ (fun _ => ?_))
      | exact ih0 _ _ _ _
      | exact ih1 _ _ _ _
      | exact ih2 _ _ _ _ _
      | exact ih3 _ _ _ _ _
      | exact ih4 _ _ _ _
      | exact word_place.mono _ _ _ _
      | exact word_sym.mono _ _
      | exact LeO.none _
      | refine LeO.ite ?_ ?_
      | refine LeO.bind ?_ (fun _ => ?_)
theorem word_Parse.mono : ∀ a0 a1 k, LeO (word_Parse.f k a0 a1) (word_Parse.f (k + 1) a0 a1) := by
  intro a0 a1 k
  obtain ⟨ih0, ih1, ih2, ih3, ih4⟩ := word_Parse.mono_l k
  unfold word_Parse.f
  repeat' first
      | (with_reducible exact ih0 _ _ _ _)
      | (with_reducible exact ih1 _ _ _ _)
      | (with_reducible exact ih2 _ _ _ _ _)
      | (with_reducible exact ih3 _ _ _ _ _)
      | (with_reducible exact ih4 _ _ _ _)
      | (with_reducible exact word_place.mono _ _ _ _)
      | (with_reducible exact word_sym.mono _ _)
      | (with_reducible exact LeO.refl _)
      | (with_reducible exact LeO.none _)
      | (with_reducible refine LeO.ite ?_ ?_)
      | (with_reducible refine LeO.bind ?_ (fun _ => ?_))
      | exact ih0 _ _ _ _
      | exact ih1 _ _ _ _
      | exact ih2 _ _ _ _ _
      | exact ih3 _ _ _ _ _
      | exact ih4 _ _ _ _
      | exact word_place.mono _ _ _ _
      | exact word_sym.mono _ _
      | exact LeO.none _
      | refine LeO.ite ?_ ?_
      | refine LeO.bind ?_ (fun _ => ?_)
set_option maxHeartbeats 8000000 in
set_option maxRecDepth 100000 in
theorem word_Parse.calls (k : Nat) (A0 : Option Addr) (c0 : Nat) (l0 : List (S40)) (a1 : ByteArray) (r1 : List Int) (r2 : Int) (r3 : Int) (w : World) (hr0 : Kd.C k40 w A0 l0.length l0) (hc0 : l0.length ≤ c0) (h : word_Parse.f k l0 a1 = some (r1, r2, r3)) :
    Calls Try.prog 17 #[.slice A0 l0.length c0, .string a1] w fun e w' => ∃ v0_ : Value, e = .returned (.tuple #[v0_, .int .i64 r2, .int .i64 r3]) ∧ Kd.V (Kd.int .i64) 3 w' w.heap.size (fun k_ => (w.heap.size ≤ k_)) v0_ r1 ∧ Below w.heap.size w w' := by
  have hu40 := Try.underlying40
  have HR0 := Aside0.mk hr0
  have HC0 := Aside0.mk hc0
  clear hr0 hc0
  have HB := Aside0.mk (Below.refl w.heap.size w)
  have H : (if (a1.size : Int) > 2000 then (some (([] : List Int), 0, 2)) else (word_Parse.l0 k l0 a1 ([] : List Int) 0)) = some (r1, r2, r3) := h
  clear h
  by_cases c3 : (a1.size : Int) > 2000
  · rw [if_pos c3] at H
    have c3b0 : decide (2000 < (a1.size : Int)) = true := decide_eq_true c3
    have c3b1 : decide (2000 < a1.size) = true := decide_eq_true (by omega)
    clear c3
    simp only [Option.some.injEq, Prod.mk.injEq] at H
    obtain ⟨rfl, rfl, rfl⟩ := H
    go_enter Try.func17, Try.ntmps17
    go_wp2
    go_step3
    go_wp2
    (first | rw [Exit.noGoto_ret] | rw [Exit.jump_ret_Ytiibfkjfanglbaa] | skip)
    go_ret3
    exact ⟨_, by first | rfl | (simp [errW_none, errW_some] <;> rfl) | (simp [*, errW_none, errW_some] <;> rfl), (Kd.V_nil _ _ _ _ _), by repeat (first | (with_reducible first | exact HB.out | apply below_alloc | apply pw_below_drewN | apply below_drew1) | exact HB.out)⟩
  · rw [if_neg c3] at H
    have c3b0 : decide (2000 < (a1.size : Int)) = false := decide_eq_false c3
    have c3b1 : decide (2000 < a1.size) = false := decide_eq_false (by omega)
    clear c3
    have H' := Aside0.mk H
    clear H
    go_enter Try.func17, Try.ntmps17
    go_wp2
    refine wp_scope_ghost_Ytiibfkjfanglbaa 0 (fun kq a' w' => ∃ u2 u3 u4 u5 u6 u7 u8 u9 u10 u11 u12 u13 u14 u15 u16 u17 u18 u19 u20 u21 u22 u23 u24 u25 u26 u27 u28 u29 u30 u31 u32 u33 u34 u35 u36 u37 u38 u39 u40 u41 u42 u43 u44 u45 u46 u47 u48 u49 u50 u51 u52 u53 u54 u55 u56 u57 u58 u59 u60 u61 u62 u63 u64 u65 u66 u67 u68 u69 u70 u71 : Value, (∃ (x7_1 : List Int) (x8_1 : Int), u8 = .int .i64 x8_1 ∧ Aside0 (word_Parse.l0 kq l0 a1 x7_1 x8_1 = some (r1, r2, r3)) ∧ Aside0 (kq ≤ k) ∧ Aside0 (Kd.R (Kd.int .i64) 3 w' w.heap.size (fun k_ => (w.heap.size ≤ k_)) u7 x7_1) ∧ Aside0 (Below w.heap.size w w')) ∧ a' = { tmps := #[.slice A0 l0.length c0, .string a1, u2, u3, u4, u5, u6, u7, u8, u9, u10, u11, u12, u13, u14, u15, u16, u17, u18, u19, u20, u21, u22, u23, u24, u25, u26, u27, u28, u29, u30, u31, u32, u33, u34, u35, u36, u37, u38, u39, u40, u41, u42, u43, u44, u45, u46, u47, u48, u49, u50, u51, u52, u53, u54, u55, u56, u57, u58, u59, u60, u61, u62, u63, u64, u65, u66, u67, u68, u69, u70, u71], defers := [] }) rfl ?round ?first
    case first =>
      intro hBs
      go_wp2
      go_step3
      go_step
      go_step
      refine hBs.out k _ _ ?_
      clear hBs
      (repeat apply Exists.intro)
      refine ⟨?_, rfl⟩
      exact ⟨(([] : List Int)), (0), (by first | rfl | (simp; done) | (simp [*]; done)), H', ⟨Nat.le_refl _⟩, ⟨by first | exact Kd.R_nil _ _ _ _ _ | exact Kd.N_nil _ _ _ _ _ | exact Kd.V_nil _ _ _ _ _ | exact Kd.Q_nil _ _ _ _ _ | exact Kd.S_nil _ _ _ _ _⟩, ⟨by repeat (first | (with_reducible first | exact HB.out | apply below_alloc | apply pw_below_drewN | apply below_drew1) | exact HB.out)⟩⟩
    case round =>
      intro gk _ wr hinv
      obtain ⟨u2, u3, u4, u5, u6, u7, u8, u9, u10, u11, u12, u13, u14, u15, u16, u17, u18, u19, u20, u21, u22, u23, u24, u25, u26, u27, u28, u29, u30, u31, u32, u33, u34, u35, u36, u37, u38, u39, u40, u41, u42, u43, u44, u45, u46, u47, u48, u49, u50, u51, u52, u53, u54, u55, u56, u57, u58, u59, u60, u61, u62, u63, u64, u65, u66, u67, u68, u69, u70, u71, hrel, ha⟩ := hinv
      subst ha
      try dsimp only
      intro _ _ _ _
      clear H'
      try clear c1
      try clear p2
      try clear c3
      try clear c3b0
      try clear c3b1
      obtain ⟨x7_1, x8_1, rfl, HA, HK1, HO_7, HB⟩ := hrel
      cases gk with
      | zero => exact absurd HA.out (by simp [word_Parse.l0])
      | succ k1 =>
        have H := HA.out
        clear HA
        simp only [word_Parse.l0] at H
        have HC4 := Aside0.mk H
        clear H
        go_upto_block 0 with (fail)
        go_cut [8] (fun v8 wc => ∃ (kq : Nat) (x8_3 : Int), v8 = .int .i64 x8_3 ∧ Aside0 (word_Parse.j2 kq l0 a1 x7_1 x8_3 = some (r1, r2, r3)) ∧ Aside0 (kq ≤ k1) ∧ Aside0 (Kd.R (Kd.int .i64) 3 wc w.heap.size (fun k_ => (w.heap.size ≤ k_)) u7 x7_1) ∧ Aside0 (Below w.heap.size w wc))
        case first =>
          have H := HC4.out
          clear HC4
          have H' := Aside0.mk H
          clear H
          go_wp2
          go_loopg [8] k1 (fun kq v8 w' => ∃ (x8_2 : Int), v8 = .int .i64 x8_2 ∧ Aside0 (word_Parse.l1 kq l0 a1 x7_1 x8_2 = some (r1, r2, r3)) ∧ Aside0 (kq ≤ k1) ∧ Aside0 (Kd.R (Kd.int .i64) 3 w' w.heap.size (fun k_ => (w.heap.size ≤ k_)) u7 x7_1) ∧ Aside0 (Below w.heap.size w w'))
          case atStart => exact ⟨(x8_1), (by first | rfl | (simp; done) | (simp [*]; done)), H', ⟨Nat.le_refl _⟩, ⟨by (with_reducible repeat (first | apply Kd.R_alloc | apply Kd.R_drewN | apply Kd.R_drew)); exact HO_7.out⟩, ⟨by repeat (first | (with_reducible first | exact HB.out | apply below_alloc | apply pw_below_drewN | apply below_drew1) | exact HB.out)⟩⟩
          case round =>
            clear H'
            try clear c1
            try clear p2
            try clear c3
            try clear c3b0
            try clear c3b1
            try clear p2
            obtain ⟨x8_2, rfl, HA, HK2, HO_7, HB⟩ := hrel
            cases gk with
            | zero => exact absurd HA.out (by simp [word_Parse.l1])
            | succ k2 =>
              have H := HA.out
              clear HA
              simp only [word_Parse.l1] at H
              by_cases c5 : x8_2 < (a1.size : Int)
              · rw [if_pos c5] at H
                have c5b0 : decide (x8_2 < (a1.size : Int)) = true := decide_eq_true c5
                clear c5
                (first | rw [c5b0] | (simp only [i64_w, i32_w]; rw [c5b0]) | skip)
                by_cases c6 : 0 ≤ x8_2
                · rw [if_pos c6] at H
                  have c6b0 : decide (0 ≤ x8_2) = true := decide_eq_true c6
                  clear c6
                  by_cases c8 : (bt a1 x8_2) = 32
                  · rw [if_pos c8] at H
                    have c8b0 : ((bt a1 x8_2) == 32) = true := beq_iff_eq.mpr c8
                    have c8b1 : ((bt a1 x8_2) != 32) = false := bne_eq_false_iff_eq.mpr c8
                    clear c8
                    have H' := Aside0.mk H
                    clear H
                    have p7 : 0 ≤ (x8_2 : Int) := of_decide_eq_true (by first | (with_reducible assumption) | assumption)
                    have q7 : x8_2 < (a1.size : Int) := of_decide_eq_true (by first | (with_reducible assumption) | assumption)
                    have hx7 := bt_at a1 x8_2
                    replace p7 := eq_true p7
                    replace q7 := eq_true q7
                    go_wp2
                    go_roundg k2
                    case measure => have := HK1.out; have := HK2.out; omega
                    case rel => exact ⟨(wrap64 (x8_2 + 1)), (by first | rfl | (simp; done) | (simp [*]; done)), H', ⟨by have := HK1.out; have := HK2.out; omega⟩, ⟨by (with_reducible repeat (first | apply Kd.R_alloc | apply Kd.R_drewN | apply Kd.R_drew)); exact HO_7.out⟩, ⟨by repeat (first | (with_reducible first | exact HB.out | apply below_alloc | apply pw_below_drewN | apply below_drew1) | exact HB.out)⟩⟩
                  · rw [if_neg c8] at H
                    have c8b0 : ((bt a1 x8_2) == 32) = false := beq_eq_false_iff_ne.mpr c8
                    have c8b1 : ((bt a1 x8_2) != 32) = true := bne_iff_ne.mpr c8
                    have H' := Aside0.mk H
                    clear H
                    have p7 : 0 ≤ (x8_2 : Int) := of_decide_eq_true (by first | (with_reducible assumption) | assumption)
                    have q7 : x8_2 < (a1.size : Int) := of_decide_eq_true (by first | (with_reducible assumption) | assumption)
                    have hx7 := bt_at a1 x8_2
                    replace p7 := eq_true p7
                    replace q7 := eq_true q7
                    go_wp2
                    go_meet
                    case rel => exact ⟨_, (x8_2), (by first | rfl | (simp; done) | (simp [*]; done)), H', ⟨by have := HK1.out; have := HK2.out; first | omega | exact Nat.le_refl _⟩, ⟨by (with_reducible repeat (first | apply Kd.R_alloc | apply Kd.R_drewN | apply Kd.R_drew)); exact HO_7.out⟩, ⟨by repeat (first | (with_reducible first | exact HB.out | apply below_alloc | apply pw_below_drewN | apply below_drew1) | exact HB.out)⟩⟩
                · rw [if_neg c6] at H
                  exact absurd H (by simp)
              · rw [if_neg c5] at H
                have c5b0 : decide (x8_2 < (a1.size : Int)) = false := decide_eq_false c5
                clear c5
                (first | rw [c5b0] | (simp only [i64_w, i32_w]; rw [c5b0]) | skip)
                have H' := Aside0.mk H
                clear H
                go_wp2
                go_meet
                case rel => exact ⟨_, (x8_2), (by first | rfl | (simp; done) | (simp [*]; done)), H', ⟨by have := HK1.out; have := HK2.out; first | omega | exact Nat.le_refl _⟩, ⟨by (with_reducible repeat (first | apply Kd.R_alloc | apply Kd.R_drewN | apply Kd.R_drew)); exact HO_7.out⟩, ⟨by repeat (first | (with_reducible first | exact HB.out | apply below_alloc | apply pw_below_drewN | apply below_drew1) | exact HB.out)⟩⟩
        case rest =>
          clear HC4
          try clear c1
          try clear p2
          try clear c3
          try clear c3b0
          try clear c3b1
          try clear c5
          try clear c5b0
          try clear c6
          try clear c6b0
          try clear p6
          try clear p7
          try clear q7
          try clear hx7
          try clear c8
          try clear c8b0
          try clear c8b1
          try clear p2
          try clear p7
          try clear q7
          obtain ⟨kq, x8_3, rfl, HA, HJ3, HO_7, HB⟩ := hcut
          cases kq with
          | zero => exact absurd HA.out (by simp [word_Parse.j2])
          | succ kj3 =>
            have H := HA.out
            clear HA
            simp only [word_Parse.j2] at H
            by_cases c9 : x8_3 = (a1.size : Int)
            · rw [if_pos c9] at H
              have c9b0 : (x8_3 == (a1.size : Int)) = true := beq_iff_eq.mpr c9
              have c9b1 : (x8_3 != (a1.size : Int)) = false := bne_eq_false_iff_eq.mpr c9
              clear c9
              obtain ⟨y148, hy148⟩ : ∃ y_ : List Int, y_ = (x7_1.take ((x7_1.length : Int) : Int).toNat) := ⟨_, rfl⟩
              replace H : (some (y148, 0, 0)) = some (r1, r2, r3) := by first | (rw [hy148]; with_reducible exact H) | (have H2_ := (Option.bind_some _ _).symm.trans H; rw [hy148]; with_reducible exact H2_) | (have H2_ := (Option.bind_some _ _).symm.trans H; with_reducible exact H2_) | with_reducible exact H | (rw [hy148]; exact H) | exact H
              have Ny148 := Aside0.mk hy148
              clear hy148
              simp only [Option.some.injEq, Prod.mk.injEq] at H
              obtain ⟨rfl, rfl, rfl⟩ := H
              obtain ⟨Ao10, co10, eo10⟩ := Kd.R_slice HO_7.out
              subst eo10
              have q11 : ((x7_1.length : Int) : Int) ≤ ((x7_1.length : Int) : Int) := Int.le_refl _
              obtain ⟨i011, hi011, _, hsz11, _⟩ := info_parts info3
              have hroom11 : x7_1.length ≤ co10 := (Kd.R_reads' HO_7.out).2.1
              have hC11 : Kd.F (Kd.int .i64) _ _ Ao10 x7_1.length x7_1 := (Kd.V_at (base := w.heap.size) (Kd.R_V HO_7.out)).2.2
              have hcut11 := Go.Proofs.YtiibfkjfanglbaaH.cut_max (P := Try.prog) 22 3 .i64 Try.underlying22 hi011 Ao10 x7_1.length co10 (x7_1.length : Int) (Int.natCast_nonneg _) q11 hroom11
              have hr11 := Kd.F_take (m := ((x7_1.length : Int) : Int).toNat) hC11 (by omega)
              have hy11 : y148.length = ((x7_1.length : Int) : Int).toNat := (by rw [Ny148.out, List.length_take]; omega)
              rw [← Ny148.out] at hr11
              rw [← hy11] at hcut11
              have HO151 := Aside0.mk (show Kd.V (Kd.int .i64) 3 _ w.heap.size _ (.slice Ao10 y148.length y148.length) y148 from Kd.V_mk (Nat.le_refl _) hr11)
              have HC151 := Aside0.mk (show y148.length ≤ co10 from by omega)
              clear hr11 hC11 hroom11 hi011 hsz11
              have KY11 := Aside0.mk hy11
              clear hy11
              replace q11 := eq_true q11
              go_wp2
              (first | rw [Exit.noGoto_ret] | rw [Exit.jump_ret_Ytiibfkjfanglbaa] | skip)
              go_ret3
              exact ⟨_, by first | rfl | (simp [errW_none, errW_some] <;> rfl) | (simp [*, errW_none, errW_some] <;> rfl), by (with_reducible repeat (first | apply Kd.V_alloc | apply Kd.V_drewN | apply Kd.V_drew)); exact HO151.out, by repeat (first | (with_reducible first | exact HB.out | apply below_alloc | apply pw_below_drewN | apply below_drew1) | exact HB.out)⟩
            · rw [if_neg c9] at H
              have c9b0 : (x8_3 == (a1.size : Int)) = false := beq_eq_false_iff_ne.mpr c9
              have c9b1 : (x8_3 != (a1.size : Int)) = true := bne_iff_ne.mpr c9
              have HC12 := Aside0.mk H
              clear H
              go_upto_block 2 with (fail)
              go_cut [9] (fun v9 wc => ∃ (kq : Nat) (x9_11 : Int), v9 = .int .i64 x9_11 ∧ Aside0 (word_Parse.j4 kq l0 a1 x7_1 x8_3 x9_11 = some (r1, r2, r3)) ∧ Aside0 (kq ≤ kj3) ∧ Aside0 (Kd.R (Kd.int .i64) 3 wc w.heap.size (fun k_ => (w.heap.size ≤ k_)) u7 x7_1) ∧ Aside0 (Below w.heap.size w wc))
              case first =>
                have H := HC12.out
                clear HC12
                have H' := Aside0.mk H
                clear H
                go_wp2
                go_loopg [9] kj3 (fun kq v9 w' => ∃ (x9_3 : Int), v9 = .int .i64 x9_3 ∧ Aside0 (word_Parse.l2 kq l0 a1 x7_1 x8_3 x9_3 = some (r1, r2, r3)) ∧ Aside0 (kq ≤ kj3) ∧ Aside0 (Kd.R (Kd.int .i64) 3 w' w.heap.size (fun k_ => (w.heap.size ≤ k_)) u7 x7_1) ∧ Aside0 (Below w.heap.size w w'))
                case atStart => exact ⟨(x8_3), (by first | rfl | (simp; done) | (simp [*]; done)), H', ⟨Nat.le_refl _⟩, ⟨by (with_reducible repeat (first | apply Kd.R_alloc | apply Kd.R_drewN | apply Kd.R_drew)); exact HO_7.out⟩, ⟨by repeat (first | (with_reducible first | exact HB.out | apply below_alloc | apply pw_below_drewN | apply below_drew1) | exact HB.out)⟩⟩
                case round =>
                  clear H'
                  try clear c1
                  try clear q1
                  try clear p2
                  try clear c3
                  try clear c3b0
                  try clear c3b1
                  try clear c5
                  try clear c5b0
                  try clear c6
                  try clear c6b0
                  try clear p6
                  try clear p7
                  try clear q7
                  try clear hx7
                  try clear c8
                  try clear c8b0
                  try clear c8b1
                  try clear c9
                  try clear c9b0
                  try clear c9b1
                  try clear q11
                  try clear p2
                  try clear p6
                  try clear p7
                  try clear q11
                  try clear q7
                  obtain ⟨x9_3, rfl, HA, HK3, HO_7, HB⟩ := hrel
                  cases gk with
                  | zero => exact absurd HA.out (by simp [word_Parse.l2])
                  | succ k3 =>
                    have H := HA.out
                    clear HA
                    simp only [word_Parse.l2] at H
                    by_cases c13 : x9_3 < (a1.size : Int)
                    · rw [if_pos c13] at H
                      have c13b0 : decide (x9_3 < (a1.size : Int)) = true := decide_eq_true c13
                      clear c13
                      (first | rw [c13b0] | (simp only [i64_w, i32_w]; rw [c13b0]) | skip)
                      by_cases c14 : 0 ≤ x9_3
                      · rw [if_pos c14] at H
                        have c14b0 : decide (0 ≤ x9_3) = true := decide_eq_true c14
                        clear c14
                        by_cases c16 : (bt a1 x9_3) = 32
                        · rw [if_pos c16] at H
                          have c16b0 : ((bt a1 x9_3) == 32) = true := beq_iff_eq.mpr c16
                          have c16b1 : ((bt a1 x9_3) != 32) = false := bne_eq_false_iff_eq.mpr c16
                          clear c16
                          have H' := Aside0.mk H
                          clear H
                          have p15 : 0 ≤ (x9_3 : Int) := of_decide_eq_true (by first | (with_reducible assumption) | assumption)
                          have q15 : x9_3 < (a1.size : Int) := of_decide_eq_true (by first | (with_reducible assumption) | assumption)
                          have hx15 := bt_at a1 x9_3
                          replace p15 := eq_true p15
                          replace q15 := eq_true q15
                          go_wp2
                          go_meet
                          case rel => exact ⟨_, (x9_3), (by first | rfl | (simp; done) | (simp [*]; done)), H', ⟨by have := HK1.out; have := HJ3.out; have := HK3.out; first | omega | exact Nat.le_refl _⟩, ⟨by (with_reducible repeat (first | apply Kd.R_alloc | apply Kd.R_drewN | apply Kd.R_drew)); exact HO_7.out⟩, ⟨by repeat (first | (with_reducible first | exact HB.out | apply below_alloc | apply pw_below_drewN | apply below_drew1) | exact HB.out)⟩⟩
                        · rw [if_neg c16] at H
                          have c16b0 : ((bt a1 x9_3) == 32) = false := beq_eq_false_iff_ne.mpr c16
                          have c16b1 : ((bt a1 x9_3) != 32) = true := bne_iff_ne.mpr c16
                          have H' := Aside0.mk H
                          clear H
                          have p15 : 0 ≤ (x9_3 : Int) := of_decide_eq_true (by first | (with_reducible assumption) | assumption)
                          have q15 : x9_3 < (a1.size : Int) := of_decide_eq_true (by first | (with_reducible assumption) | assumption)
                          have hx15 := bt_at a1 x9_3
                          replace p15 := eq_true p15
                          replace q15 := eq_true q15
                          go_wp2
                          go_roundg k3
                          case measure => have := HK1.out; have := HJ3.out; have := HK3.out; omega
                          case rel => exact ⟨(wrap64 (x9_3 + 1)), (by first | rfl | (simp; done) | (simp [*]; done)), H', ⟨by have := HK1.out; have := HJ3.out; have := HK3.out; omega⟩, ⟨by (with_reducible repeat (first | apply Kd.R_alloc | apply Kd.R_drewN | apply Kd.R_drew)); exact HO_7.out⟩, ⟨by repeat (first | (with_reducible first | exact HB.out | apply below_alloc | apply pw_below_drewN | apply below_drew1) | exact HB.out)⟩⟩
                      · rw [if_neg c14] at H
                        exact absurd H (by simp)
                    · rw [if_neg c13] at H
                      have c13b0 : decide (x9_3 < (a1.size : Int)) = false := decide_eq_false c13
                      clear c13
                      (first | rw [c13b0] | (simp only [i64_w, i32_w]; rw [c13b0]) | skip)
                      have H' := Aside0.mk H
                      clear H
                      go_wp2
                      go_meet
                      case rel => exact ⟨_, (x9_3), (by first | rfl | (simp; done) | (simp [*]; done)), H', ⟨by have := HK1.out; have := HJ3.out; have := HK3.out; first | omega | exact Nat.le_refl _⟩, ⟨by (with_reducible repeat (first | apply Kd.R_alloc | apply Kd.R_drewN | apply Kd.R_drew)); exact HO_7.out⟩, ⟨by repeat (first | (with_reducible first | exact HB.out | apply below_alloc | apply pw_below_drewN | apply below_drew1) | exact HB.out)⟩⟩
              case rest =>
                clear HC12
                try clear c1
                try clear p1
                try clear q1
                try clear hx1
                try clear p2
                try clear c3
                try clear c3b0
                try clear c3b1
                try clear c5
                try clear c5b0
                try clear c6
                try clear c6b0
                try clear p6
                try clear p7
                try clear q7
                try clear hx7
                try clear c8
                try clear c8b0
                try clear c8b1
                try clear c9
                try clear c9b0
                try clear c9b1
                try clear q11
                try clear c13
                try clear c13b0
                try clear c14
                try clear c14b0
                try clear p15
                try clear q15
                try clear hx15
                try clear c16
                try clear c16b0
                try clear c16b1
                try clear p15
                try clear p2
                try clear p6
                try clear p7
                try clear q1
                try clear q11
                try clear q15
                try clear q7
                obtain ⟨kq, x9_11, rfl, HA, HJ11, HO_7, HB⟩ := hcut
                cases kq with
                | zero => exact absurd HA.out (by simp [word_Parse.j4])
                | succ kj11 =>
                  have H := HA.out
                  clear HA
                  simp only [word_Parse.j4] at H
                  by_cases c17 : 0 ≤ x8_3
                  · rw [if_pos c17] at H
                    have c17b0 := eq_true c17
                    have c17b1 : decide (0 ≤ x8_3) = true := decide_eq_true c17
                    clear c17
                    by_cases c18 : x8_3 ≤ x9_11
                    · rw [if_pos c18] at H
                      have c18b0 := eq_true c18
                      have c18b1 : decide (x8_3 ≤ x9_11) = true := decide_eq_true c18
                      clear c18
                      by_cases c19 : x9_11 ≤ (a1.size : Int)
                      · rw [if_pos c19] at H
                        have c19b0 := eq_true c19
                        have c19b1 : decide (x9_11 ≤ (a1.size : Int)) = true := decide_eq_true c19
                        clear c19
                        replace H := Option.bind_eq_some_iff.mp H
                        obtain ⟨⟨t152, t153⟩, A200, H⟩ := H
                        replace H : ((word_place.f kj11 l0 t152 t153).bind fun t155 => (if t153 = 0 then (some (([] : List Int), x8_3, 1)) else (if t155 < 0 then (some (([] : List Int), x8_3, 6)) else (if x7_1.length < 17592186044416 then (word_Parse.l0 kj11 l0 a1 (x7_1 ++ [t155]) x9_11) else (none))))) = some (r1, r2, r3) := H
                        have A20 := Aside0.mk A200
                        clear A200
                        replace H := Option.bind_eq_some_iff.mp H
                        obtain ⟨t155, A210, H⟩ := H
                        replace H : (if t153 = 0 then (some (([] : List Int), x8_3, 1)) else (if t155 < 0 then (some (([] : List Int), x8_3, 6)) else (if x7_1.length < 17592186044416 then (word_Parse.l0 kj11 l0 a1 (x7_1 ++ [t155]) x9_11) else (none)))) = some (r1, r2, r3) := H
                        have A21 := Aside0.mk A210
                        clear A210
                        by_cases c22 : t153 = 0
                        · rw [if_pos c22] at H
                          have c22b0 : (t153 == 0) = true := beq_iff_eq.mpr c22
                          have c22b1 : (t153 != 0) = false := bne_eq_false_iff_eq.mpr c22
                          clear c22
                          simp only [Option.some.injEq, Prod.mk.injEq] at H
                          obtain ⟨rfl, rfl, rfl⟩ := H
                          go_wp2_with (first | ((with_reducible refine gate_callee (f := 33) rfl ?_); refine goesL_ (some 54) rfl rfl Try.func33 (by kernel_rfl) rfl #[.string (a1.extract (x8_3 : Int).toNat (x9_11 : Int).toNat)] rfl (by (try simp only [List.map_toArray, List.map_cons, List.map_nil]); first | done | rfl | (simp only [List.length_drop, List.length_take]; rfl)) ?_; (with_reducible refine (word_sym.calls kj11 (a1.extract (x8_3 : Int).toNat (x9_11 : Int).toNat) t152 t153 _ A20.out).mono ?_); rintro e w23 ⟨rfl, hb⟩; refine ⟨_, rfl, ?_⟩; have n0_ := Aside0.mk (Kd.R_below (by (with_reducible repeat (first | apply Kd.R_alloc | apply Kd.R_drewN | apply Kd.R_drew)); exact HO_7.out) hb); have n1_ := Aside0.mk (below_step (by repeat (first | (with_reducible first | exact HB.out | apply below_alloc | apply pw_below_drewN | apply below_drew1) | exact HB.out)) hb); clear HO_7; clear HB; have HO_7 := n0_; have HB := n1_; clear n0_ n1_; (try clear hb); (try clear hb2); (try clear hk); (try clear hi)) | ((with_reducible refine gate_dst (N := 10) rfl ?_); refine box_event ?hg (N := 10) ?hd (cs := #[.string (⟨#[]⟩ : ByteArray), .int .i64 0]) (t := 40) ?hr ?_; (case hd => rfl); (case hg => rfl); (case hr => first | (go_simp; done) | (go_simp; rfl)); intro gb154 hg w24 hbox hb; have n0_ := Aside0.mk (Kd.R_below (by (with_reducible repeat (first | apply Kd.R_alloc | apply Kd.R_drewN | apply Kd.R_drew)); exact HO_7.out) hb); have n1_ := Aside0.mk (below_step (by repeat (first | (with_reducible first | exact HB.out | apply below_alloc | apply pw_below_drewN | apply below_drew1) | exact HB.out)) hb); have n2_ := Aside0.mk (hbox); have n3_ := Aside0.mk ((by rw [hg]; exact (below_size (by repeat (first | (with_reducible first | exact HB.out | apply below_alloc | apply pw_below_drewN | apply below_drew1) | exact HB.out))) : w.heap.size ≤ gb154)); have n4_ := Aside0.mk ((by rw [hg]; exact (below_size (by repeat (first | (with_reducible first | exact HB.out | apply below_alloc | apply pw_below_drewN | apply below_drew1) | exact HB.out))) : w.heap.size ≤ gb154)); clear HO_7; clear HB; have HO_7 := n0_; have HB := n1_; have BK154 := n2_; have GW154 := n3_; have GE154 := n4_; clear n0_ n1_ n2_ n3_ n4_; clear hb hbox hg; have hcz25_0 : w24.cell? ⟨gb154, 0, none⟩ = some (.string (⟨#[]⟩ : ByteArray)) := (blk_cell BK154.out 0).trans rfl; have hcz25_1 : w24.cell? ⟨gb154, 1, none⟩ = some (.int .i64 0) := (blk_cell BK154.out 1).trans rfl; have hfz25_0 := blk_frozen BK154.out 0; have hfz25_1 := blk_frozen BK154.out 1) | ((with_reducible refine gate_callee (f := 34) rfl ?_); refine goesL_ (some 57) rfl rfl Try.func34 (by kernel_rfl) rfl #[.slice A0 l0.length c0, .agg #[.string t152, .int .i64 t153]] rfl (by (try simp only [List.map_toArray, List.map_cons, List.map_nil]); first | done | rfl | (simp only [List.length_drop, List.length_take]; rfl)) ?_; (with_reducible refine (word_place.calls kj11 _ _ l0 t152 t153 t155 _ ?side1 ?side2 A21.out).mono ?_); (case side1 => exact Kd.C_below HR0.out (by repeat (first | (with_reducible first | exact HB.out | apply below_alloc | apply pw_below_drewN | apply below_drew1 | refine below_set ?_ GE154.out) | exact HB.out))); (case side2 => exact HC0.out); rintro e w26 ⟨rfl, hb⟩; refine ⟨_, rfl, ?_⟩; have n0_ := Aside0.mk (Kd.R_below (by (with_reducible repeat (first | apply Kd.R_alloc | apply Kd.R_drewN | apply Kd.R_drew)); exact (Kd.R_mono (Kd.R_far (p := ⟨gb154, 1, none⟩) (Kd.R_far (p := ⟨gb154, 0, none⟩) (Kd.R_types HO_7.out BK154.out (by decide)) (fun _ hk => hk.2) (.string t152)) (fun _ hk => hk.2) (.int .i64 t153)) (fun _ h_ => h_.1))) hb); have n1_ := Aside0.mk (blk_below (g := gb154) (o := .cells #[.string t152, .int .i64 t153] 40 (0, 0)) (by (with_reducible repeat (first | refine blk_drewN ?_ _ | refine blk_drew ?_ | refine blk_alloc ?_ _)); refine blk_put (cs := #[.string t152, .int .i64 0]) ?_ 1 _ rfl; (with_reducible repeat (first | refine blk_drewN ?_ _ | refine blk_drew ?_ | refine blk_alloc ?_ _)); refine blk_put (cs := #[.string (⟨#[]⟩ : ByteArray), .int .i64 0]) ?_ 0 _ rfl; (with_reducible repeat (first | refine blk_drewN ?_ _ | refine blk_drew ?_ | refine blk_alloc ?_ _)); exact BK154.out) hb); have n2_ := Aside0.mk (below_step (by repeat (first | (with_reducible first | exact HB.out | apply below_alloc | apply pw_below_drewN | apply below_drew1 | refine below_set ?_ GE154.out) | exact HB.out)) hb); clear HO_7; clear BK154; clear HB; have HO_7 := n0_; have BK154 := n1_; have HB := n2_; clear n0_ n1_ n2_; (try clear hb); (try clear hb2); (try clear hk); (try clear hi); have hcz27_0 : w26.cell? ⟨gb154, 0, none⟩ = some (.string t152) := (blk_cell BK154.out 0).trans rfl; have hcz27_1 : w26.cell? ⟨gb154, 1, none⟩ = some (.int .i64 t153) := (blk_cell BK154.out 1).trans rfl; have hfz27_0 := blk_frozen BK154.out 0; have hfz27_1 := blk_frozen BK154.out 1))
                          (first | rw [Exit.noGoto_ret] | rw [Exit.jump_ret_Ytiibfkjfanglbaa] | skip)
                          go_ret3
                          exact ⟨_, by first | rfl | (simp [errW_none, errW_some] <;> rfl) | (simp [*, errW_none, errW_some] <;> rfl), (Kd.V_nil _ _ _ _ _), by repeat (first | (with_reducible first | exact HB.out | apply below_alloc | apply pw_below_drewN | apply below_drew1 | refine below_set ?_ GE154.out) | exact HB.out)⟩
                        · rw [if_neg c22] at H
                          have c22b0 : (t153 == 0) = false := beq_eq_false_iff_ne.mpr c22
                          have c22b1 : (t153 != 0) = true := bne_iff_ne.mpr c22
                          by_cases c28 : t155 < 0
                          · rw [if_pos c28] at H
                            have c28b0 : decide (t155 < 0) = true := decide_eq_true c28
                            clear c28
                            simp only [Option.some.injEq, Prod.mk.injEq] at H
                            obtain ⟨rfl, rfl, rfl⟩ := H
                            go_wp2_with (first | ((with_reducible refine gate_callee (f := 33) rfl ?_); refine goesL_ (some 54) rfl rfl Try.func33 (by kernel_rfl) rfl #[.string (a1.extract (x8_3 : Int).toNat (x9_11 : Int).toNat)] rfl (by (try simp only [List.map_toArray, List.map_cons, List.map_nil]); first | done | rfl | (simp only [List.length_drop, List.length_take]; rfl)) ?_; (with_reducible refine (word_sym.calls kj11 (a1.extract (x8_3 : Int).toNat (x9_11 : Int).toNat) t152 t153 _ A20.out).mono ?_); rintro e w29 ⟨rfl, hb⟩; refine ⟨_, rfl, ?_⟩; have n0_ := Aside0.mk (Kd.R_below (by (with_reducible repeat (first | apply Kd.R_alloc | apply Kd.R_drewN | apply Kd.R_drew)); exact HO_7.out) hb); have n1_ := Aside0.mk (below_step (by repeat (first | (with_reducible first | exact HB.out | apply below_alloc | apply pw_below_drewN | apply below_drew1) | exact HB.out)) hb); clear HO_7; clear HB; have HO_7 := n0_; have HB := n1_; clear n0_ n1_; (try clear hb); (try clear hb2); (try clear hk); (try clear hi)) | ((with_reducible refine gate_dst (N := 10) rfl ?_); refine box_event ?hg (N := 10) ?hd (cs := #[.string (⟨#[]⟩ : ByteArray), .int .i64 0]) (t := 40) ?hr ?_; (case hd => rfl); (case hg => rfl); (case hr => first | (go_simp; done) | (go_simp; rfl)); intro gb154 hg w30 hbox hb; have n0_ := Aside0.mk (Kd.R_below (by (with_reducible repeat (first | apply Kd.R_alloc | apply Kd.R_drewN | apply Kd.R_drew)); exact HO_7.out) hb); have n1_ := Aside0.mk (below_step (by repeat (first | (with_reducible first | exact HB.out | apply below_alloc | apply pw_below_drewN | apply below_drew1) | exact HB.out)) hb); have n2_ := Aside0.mk (hbox); have n3_ := Aside0.mk ((by rw [hg]; exact (below_size (by repeat (first | (with_reducible first | exact HB.out | apply below_alloc | apply pw_below_drewN | apply below_drew1) | exact HB.out))) : w.heap.size ≤ gb154)); have n4_ := Aside0.mk ((by rw [hg]; exact (below_size (by repeat (first | (with_reducible first | exact HB.out | apply below_alloc | apply pw_below_drewN | apply below_drew1) | exact HB.out))) : w.heap.size ≤ gb154)); clear HO_7; clear HB; have HO_7 := n0_; have HB := n1_; have BK154 := n2_; have GW154 := n3_; have GE154 := n4_; clear n0_ n1_ n2_ n3_ n4_; clear hb hbox hg; have hcz31_0 : w30.cell? ⟨gb154, 0, none⟩ = some (.string (⟨#[]⟩ : ByteArray)) := (blk_cell BK154.out 0).trans rfl; have hcz31_1 : w30.cell? ⟨gb154, 1, none⟩ = some (.int .i64 0) := (blk_cell BK154.out 1).trans rfl; have hfz31_0 := blk_frozen BK154.out 0; have hfz31_1 := blk_frozen BK154.out 1) | ((with_reducible refine gate_callee (f := 34) rfl ?_); refine goesL_ (some 57) rfl rfl Try.func34 (by kernel_rfl) rfl #[.slice A0 l0.length c0, .agg #[.string t152, .int .i64 t153]] rfl (by (try simp only [List.map_toArray, List.map_cons, List.map_nil]); first | done | rfl | (simp only [List.length_drop, List.length_take]; rfl)) ?_; (with_reducible refine (word_place.calls kj11 _ _ l0 t152 t153 t155 _ ?side1 ?side2 A21.out).mono ?_); (case side1 => exact Kd.C_below HR0.out (by repeat (first | (with_reducible first | exact HB.out | apply below_alloc | apply pw_below_drewN | apply below_drew1 | refine below_set ?_ GE154.out) | exact HB.out))); (case side2 => exact HC0.out); rintro e w32 ⟨rfl, hb⟩; refine ⟨_, rfl, ?_⟩; have n0_ := Aside0.mk (Kd.R_below (by (with_reducible repeat (first | apply Kd.R_alloc | apply Kd.R_drewN | apply Kd.R_drew)); exact (Kd.R_mono (Kd.R_far (p := ⟨gb154, 1, none⟩) (Kd.R_far (p := ⟨gb154, 0, none⟩) (Kd.R_types HO_7.out BK154.out (by decide)) (fun _ hk => hk.2) (.string t152)) (fun _ hk => hk.2) (.int .i64 t153)) (fun _ h_ => h_.1))) hb); have n1_ := Aside0.mk (blk_below (g := gb154) (o := .cells #[.string t152, .int .i64 t153] 40 (0, 0)) (by (with_reducible repeat (first | refine blk_drewN ?_ _ | refine blk_drew ?_ | refine blk_alloc ?_ _)); refine blk_put (cs := #[.string t152, .int .i64 0]) ?_ 1 _ rfl; (with_reducible repeat (first | refine blk_drewN ?_ _ | refine blk_drew ?_ | refine blk_alloc ?_ _)); refine blk_put (cs := #[.string (⟨#[]⟩ : ByteArray), .int .i64 0]) ?_ 0 _ rfl; (with_reducible repeat (first | refine blk_drewN ?_ _ | refine blk_drew ?_ | refine blk_alloc ?_ _)); exact BK154.out) hb); have n2_ := Aside0.mk (below_step (by repeat (first | (with_reducible first | exact HB.out | apply below_alloc | apply pw_below_drewN | apply below_drew1 | refine below_set ?_ GE154.out) | exact HB.out)) hb); clear HO_7; clear BK154; clear HB; have HO_7 := n0_; have BK154 := n1_; have HB := n2_; clear n0_ n1_ n2_; (try clear hb); (try clear hb2); (try clear hk); (try clear hi); have hcz33_0 : w32.cell? ⟨gb154, 0, none⟩ = some (.string t152) := (blk_cell BK154.out 0).trans rfl; have hcz33_1 : w32.cell? ⟨gb154, 1, none⟩ = some (.int .i64 t153) := (blk_cell BK154.out 1).trans rfl; have hfz33_0 := blk_frozen BK154.out 0; have hfz33_1 := blk_frozen BK154.out 1))
                            (first | rw [Exit.noGoto_ret] | rw [Exit.jump_ret_Ytiibfkjfanglbaa] | skip)
                            go_ret3
                            exact ⟨_, by first | rfl | (simp [errW_none, errW_some] <;> rfl) | (simp [*, errW_none, errW_some] <;> rfl), (Kd.V_nil _ _ _ _ _), by repeat (first | (with_reducible first | exact HB.out | apply below_alloc | apply pw_below_drewN | apply below_drew1 | refine below_set ?_ GE154.out) | exact HB.out)⟩
                          · rw [if_neg c28] at H
                            have c28b0 : decide (t155 < 0) = false := decide_eq_false c28
                            clear c28
                            by_cases c34 : x7_1.length < 17592186044416
                            · rw [if_pos c34] at H
                              have LMc34 := Aside0.mk c34
                              clear c34
                              obtain ⟨y156, hy156⟩ : ∃ y_ : List Int, y_ = (x7_1 ++ [t155]) := ⟨_, rfl⟩
                              replace H : (word_Parse.l0 kj11 l0 a1 y156 x9_11) = some (r1, r2, r3) := by first | (rw [hy156]; with_reducible exact H) | (have H2_ := (Option.bind_some _ _).symm.trans H; rw [hy156]; with_reducible exact H2_) | (have H2_ := (Option.bind_some _ _).symm.trans H; with_reducible exact H2_) | with_reducible exact H | (rw [hy156]; exact H) | exact H
                              have Ny156 := Aside0.mk hy156
                              clear hy156
                              have H' := Aside0.mk H
                              clear H
                              go_wp2_with (first | ((with_reducible refine gate_callee (f := 33) rfl ?_); refine goesL_ (some 54) rfl rfl Try.func33 (by kernel_rfl) rfl #[.string (a1.extract (x8_3 : Int).toNat (x9_11 : Int).toNat)] rfl (by (try simp only [List.map_toArray, List.map_cons, List.map_nil]); first | done | rfl | (simp only [List.length_drop, List.length_take]; rfl)) ?_; (with_reducible refine (word_sym.calls kj11 (a1.extract (x8_3 : Int).toNat (x9_11 : Int).toNat) t152 t153 _ A20.out).mono ?_); rintro e w35 ⟨rfl, hb⟩; refine ⟨_, rfl, ?_⟩; have n0_ := Aside0.mk (Kd.R_below (by (with_reducible repeat (first | apply Kd.R_alloc | apply Kd.R_drewN | apply Kd.R_drew)); exact HO_7.out) hb); have n1_ := Aside0.mk (below_step (by repeat (first | (with_reducible first | exact HB.out | apply below_alloc | apply pw_below_drewN | apply below_drew1) | exact HB.out)) hb); clear HO_7; clear HB; have HO_7 := n0_; have HB := n1_; clear n0_ n1_; (try clear hb); (try clear hb2); (try clear hk); (try clear hi)) | ((with_reducible refine gate_dst (N := 10) rfl ?_); refine box_event ?hg (N := 10) ?hd (cs := #[.string (⟨#[]⟩ : ByteArray), .int .i64 0]) (t := 40) ?hr ?_; (case hd => rfl); (case hg => rfl); (case hr => first | (go_simp; done) | (go_simp; rfl)); intro gb154 hg w36 hbox hb; have n0_ := Aside0.mk (Kd.R_below (by (with_reducible repeat (first | apply Kd.R_alloc | apply Kd.R_drewN | apply Kd.R_drew)); exact HO_7.out) hb); have n1_ := Aside0.mk (below_step (by repeat (first | (with_reducible first | exact HB.out | apply below_alloc | apply pw_below_drewN | apply below_drew1) | exact HB.out)) hb); have n2_ := Aside0.mk (hbox); have n3_ := Aside0.mk ((by rw [hg]; exact (below_size (by repeat (first | (with_reducible first | exact HB.out | apply below_alloc | apply pw_below_drewN | apply below_drew1) | exact HB.out))) : w.heap.size ≤ gb154)); have n4_ := Aside0.mk ((by rw [hg]; exact (below_size (by repeat (first | (with_reducible first | exact HB.out | apply below_alloc | apply pw_below_drewN | apply below_drew1) | exact HB.out))) : w.heap.size ≤ gb154)); clear HO_7; clear HB; have HO_7 := n0_; have HB := n1_; have BK154 := n2_; have GW154 := n3_; have GE154 := n4_; clear n0_ n1_ n2_ n3_ n4_; clear hb hbox hg; have hcz37_0 : w36.cell? ⟨gb154, 0, none⟩ = some (.string (⟨#[]⟩ : ByteArray)) := (blk_cell BK154.out 0).trans rfl; have hcz37_1 : w36.cell? ⟨gb154, 1, none⟩ = some (.int .i64 0) := (blk_cell BK154.out 1).trans rfl; have hfz37_0 := blk_frozen BK154.out 0; have hfz37_1 := blk_frozen BK154.out 1) | ((with_reducible refine gate_callee (f := 34) rfl ?_); refine goesL_ (some 57) rfl rfl Try.func34 (by kernel_rfl) rfl #[.slice A0 l0.length c0, .agg #[.string t152, .int .i64 t153]] rfl (by (try simp only [List.map_toArray, List.map_cons, List.map_nil]); first | done | rfl | (simp only [List.length_drop, List.length_take]; rfl)) ?_; (with_reducible refine (word_place.calls kj11 _ _ l0 t152 t153 t155 _ ?side1 ?side2 A21.out).mono ?_); (case side1 => exact Kd.C_below HR0.out (by repeat (first | (with_reducible first | exact HB.out | apply below_alloc | apply pw_below_drewN | apply below_drew1 | refine below_set ?_ GE154.out) | exact HB.out))); (case side2 => exact HC0.out); rintro e w38 ⟨rfl, hb⟩; refine ⟨_, rfl, ?_⟩; have n0_ := Aside0.mk (Kd.R_below (by (with_reducible repeat (first | apply Kd.R_alloc | apply Kd.R_drewN | apply Kd.R_drew)); exact (Kd.R_mono (Kd.R_far (p := ⟨gb154, 1, none⟩) (Kd.R_far (p := ⟨gb154, 0, none⟩) (Kd.R_types HO_7.out BK154.out (by decide)) (fun _ hk => hk.2) (.string t152)) (fun _ hk => hk.2) (.int .i64 t153)) (fun _ h_ => h_.1))) hb); have n1_ := Aside0.mk (blk_below (g := gb154) (o := .cells #[.string t152, .int .i64 t153] 40 (0, 0)) (by (with_reducible repeat (first | refine blk_drewN ?_ _ | refine blk_drew ?_ | refine blk_alloc ?_ _)); refine blk_put (cs := #[.string t152, .int .i64 0]) ?_ 1 _ rfl; (with_reducible repeat (first | refine blk_drewN ?_ _ | refine blk_drew ?_ | refine blk_alloc ?_ _)); refine blk_put (cs := #[.string (⟨#[]⟩ : ByteArray), .int .i64 0]) ?_ 0 _ rfl; (with_reducible repeat (first | refine blk_drewN ?_ _ | refine blk_drew ?_ | refine blk_alloc ?_ _)); exact BK154.out) hb); have n2_ := Aside0.mk (below_step (by repeat (first | (with_reducible first | exact HB.out | apply below_alloc | apply pw_below_drewN | apply below_drew1 | refine below_set ?_ GE154.out) | exact HB.out)) hb); clear HO_7; clear BK154; clear HB; have HO_7 := n0_; have BK154 := n1_; have HB := n2_; clear n0_ n1_ n2_; (try clear hb); (try clear hb2); (try clear hk); (try clear hi); have hcz39_0 : w38.cell? ⟨gb154, 0, none⟩ = some (.string t152) := (blk_cell BK154.out 0).trans rfl; have hcz39_1 : w38.cell? ⟨gb154, 1, none⟩ = some (.int .i64 t153) := (blk_cell BK154.out 1).trans rfl; have hfz39_0 := blk_frozen BK154.out 0; have hfz39_1 := blk_frozen BK154.out 1) | ((with_reducible refine gate_builtin (b := .append) (xs := #[.tmp 67, .tmp 69]) rfl ?_); at_builtin; refine Kd.R_append (Kd.int .i64) (w0 := w) w.heap.size rfl (.tmp 67) (.tmp 69) 22 3 (.int .i64 0) 8 rfl Try.underlying22 info3 rfl (by decide) (by omega) u7 x7_1 t155 [.int .i64 t155] (fun k_ => (w.heap.size ≤ k_)) (fun _ => False) rfl rfl ?aP (fun _ hk => hk.elim) ?aF ?aO ?aB ?aS ?aL ?_; (case aP => exact rfl); (case aB => exact (by repeat (first | (with_reducible first | exact HB.out | apply below_alloc | apply pw_below_drewN | apply below_drew1 | refine below_set ?_ GE154.out) | exact HB.out))); (case aF => exact (fun k_ hk => (Nat.le_trans (below_size (by repeat (first | (with_reducible first | exact HB.out | apply below_alloc | apply pw_below_drewN | apply below_drew1 | refine below_set ?_ GE154.out) | exact HB.out))) hk))); (case aO => exact (by (with_reducible repeat (first | apply Kd.R_alloc | apply Kd.R_drewN | apply Kd.R_drew)); exact HO_7.out)); (case aS => exact (below_size (by repeat (first | (with_reducible first | exact HB.out | apply below_alloc | apply pw_below_drewN | apply below_drew1 | refine below_set ?_ GE154.out) | exact HB.out)))); (case aL => have := LMc34.out; omega); intro v157 w40 ho hb hg hat; rw [← Ny156.out] at ho; have n0_ := Aside0.mk (blk_grown (g := gb154) (o := .cells #[.string t152, .int .i64 t153] 40 (0, 0)) (by (with_reducible repeat (first | refine blk_drewN ?_ _ | refine blk_drew ?_ | refine blk_alloc ?_ _)); exact BK154.out) hg (Kd.R_ne HO_7.out BK154.out (by decide))); have n1_ := Aside0.mk (hb); have n2_ := Aside0.mk (ho); clear BK154; clear HB; clear HO_7; have BK154 := n0_; have HB := n1_; have HO158 := n2_; clear n0_ n1_ n2_; clear ho hb hg hat))
                              go_step3
                              refine ⟨rfl, ?_⟩
                              go_step
                              go_roundg kj11
                              case measure => have := HK1.out; have := HJ3.out; have := HJ11.out; omega
                              case rel => exact ⟨(y156), (x9_11), (by first | rfl | (simp; done) | (simp [*]; done)), H', ⟨by have := HK1.out; have := HJ3.out; have := HJ11.out; omega⟩, ⟨by (with_reducible repeat (first | apply Kd.R_alloc | apply Kd.R_drewN | apply Kd.R_drew)); exact HO158.out⟩, ⟨by repeat (first | (with_reducible first | exact HB.out | apply below_alloc | apply pw_below_drewN | apply below_drew1 | refine below_set ?_ GE154.out) | exact HB.out)⟩⟩
                            · rw [if_neg c34] at H
                              exact absurd H (by simp)
                      · rw [if_neg c19] at H
                        exact absurd H (by simp)
                    · rw [if_neg c18] at H
                      exact absurd H (by simp)
                  · rw [if_neg c17] at H
                    exact absurd H (by simp)

end Go.Proofs.Ytiibfkjfanglbaa.P
