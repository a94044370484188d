-- written by pp.py (wip/tools of this session's repo) out of the seat's translation
import Derived.Test.YtiibfkjfanglbaaPx0
import Derived.Test.YtiibfkjfanglbaaPx1
import Derived.Test.YtiibfkjfanglbaaPx6
namespace Go.Proofs.Ytiibfkjfanglbaa.P
open Go.RowKit Go.Proofs.YtiibfkjfanglbaaW.PrintWords Go.Proofs.YtiibfkjfanglbaaW.PrintLast Go.Proofs.YtiibfkjfanglbaaW.PrintMore
attribute [local go_sem] max2_int min2_int max_two min_two max_three min_three max_four min_four   -- for this text's walks alone
set_option linter.unusedVariables false
set_option linter.unusedSimpArgs false

attribute [local go_sem high] eqA40
/-! ### word_Check: function 23 -/
mutual
def word_Check.j0 : Nat → List (S40) → Bool → Option (Int)
  | 0, _, _ => none
  | k + 1, x0, x14 => if x14 = true then (some 2) else (word_Check.l0 k x0 x0 (x0.length : Int) 0)
def word_Check.l0 : Nat → List (S40) → List (S40) → Int → Int → Option (Int)
  | 0, _, _, _, _ => none
  | k + 1, x0, x15, x16, x17 => if x17 < x16 then (if 0 ≤ x17 then (if x17 < (x15.length : Int) then ((word_named.f k ((rd_T40 x15 x17).f0)).bind fun t161 => (if t161 = true then (if ((rd_T40 x15 x17).f1) < 1 then (word_Check.j2 k x0 x17 x15 x16 x17 true ((rd_T40 x15 x17).f0) ((rd_T40 x15 x17).f1)) else (word_Check.j2 k x0 x17 x15 x16 x17 (decide (((rd_T40 x15 x17).f1) > 3)) ((rd_T40 x15 x17).f0) ((rd_T40 x15 x17).f1))) else (some 4))) else (none)) else (none)) else (some 0)
def word_Check.j2 : Nat → List (S40) → Int → List (S40) → Int → Int → Bool → ByteArray → Int → Option (Int)
  | 0, _, _, _, _, _, _, _, _ => none
  | k + 1, x0, x3, x15, x16, x17, x33, x161000, x161001 => if x33 = true then (some 7) else (if 0 ≤ x3 then (if x3 ≤ (x0.length : Int) then ((some (x0.take (x3 : Int).toNat : List (S40))).bind fun y162 => (word_Check.l1 k x0 x15 x16 x17 y162 (y162.length : Int) 0 x161000 x161001)) else (none)) else (none))
def word_Check.l1 : Nat → List (S40) → List (S40) → Int → Int → List (S40) → Int → Int → ByteArray → Int → Option (Int)
  | 0, _, _, _, _, _, _, _, _, _ => none
  | k + 1, x0, x15, x16, x17, x36, x37, x38, x161000, x161001 => if x38 < x37 then (if 0 ≤ x38 then (if x38 < (x36.length : Int) then (if (x161000.toList == (((rd_T40 x36 x38).f0).toList) && (x161001 == ((rd_T40 x36 x38).f1))) = true then (some 5) else (word_Check.l1 k x0 x15 x16 x17 x36 x37 (wrap64 (x38 + 1)) x161000 x161001)) else (none)) else (none)) else (word_Check.l0 k x0 x15 x16 (wrap64 (x17 + 1)))
end
def word_Check.f (k : Nat) (l0 : List (S40)) : Option (Int) := if (l0.length : Int) = 0 then (word_Check.j0 k l0 true) else (word_Check.j0 k l0 (decide ((l0.length : Int) > 20)))
theorem word_Check.mono_l : ∀ k, (∀ y0 y1, LeO (word_Check.j0 k y0 y1) (word_Check.j0 (k + 1) y0 y1)) ∧ (∀ y0 y1 y2 y3, LeO (word_Check.l0 k y0 y1 y2 y3) (word_Check.l0 (k + 1) y0 y1 y2 y3)) ∧ (∀ y0 y1 y2 y3 y4 y5 y6 y7, LeO (word_Check.j2 k y0 y1 y2 y3 y4 y5 y6 y7) (word_Check.j2 (k + 1) y0 y1 y2 y3 y4 y5 y6 y7)) ∧ (∀ y0 y1 y2 y3 y4 y5 y6 y7 y8, LeO (word_Check.l1 k y0 y1 y2 y3 y4 y5 y6 y7 y8) (word_Check.l1 (k + 1) y0 y1 y2 y3 y4 y5 y6 y7 y8))
  | 0 => ⟨fun _ _ r h => by simp [word_Check.j0] at h, fun _ _ _ _ r h => by simp [word_Check.l0] at h, fun _ _ _ _ _ _ _ _ r h => by simp [word_Check.j2] at h, fun _ _ _ _ _ _ _ _ _ r h => by simp [word_Check.l1] at h⟩
  | k + 1 => by
    obtain ⟨ih0, ih1, ih2, ih3⟩ := word_Check.mono_l k
    refine ⟨?_, ?_, ?_, ?_⟩
    · intro y0 y1
      unfold word_Check.j0
      repeat' first
      | (with_reducible exact ih0 _ _)
      | (with_reducible exact ih1 _ _ _ _)
      | (with_reducible exact ih2 _ _ _ _ _ _ _ _)
      | (with_reducible exact ih3 _ _ _ _ _ _ _ _ _)
      | (with_reducible exact word_named.mono _ _)
      | (with_reducible exact LeO.refl _)
      | (with_reducible exact LeO.none _)
      | (with_reducible refine LeO.ite ?_ ?_)
      | (with_reducible refine LeO.bind ?_ (fun _ => ?_))
      | exact ih0 _ _
      | exact ih1 _ _ _ _
      | exact ih2 _ _ _ _ _ _ _ _
      | exact ih3 _ _ _ _ _ _ _ _ _
      | exact word_named.mono _ _
      | exact LeO.none _
      | refine LeO.ite ?_ ?_
      | refine LeO.bind ?_ (fun _ => ?_)
    · intro y0 y1 y2 y3
      unfold word_Check.l0
      repeat' first
      | (with_reducible exact ih0 _ _)
      | (with_reducible exact ih1 _ _ _ _)
      | (with_reducible exact ih2 _ _ _ _ _ _ _ _)
      | (with_reducible exact ih3 _ _ _ _ _ _ _ _ _)
      | (with_reducible exact word_named.mono _ _)
      | (with_reducible exact LeO.refl _)
      | (with_reducible exact LeO.none _)
      | (with_reducible refine LeO.ite ?_ ?_)
      | (with_reducible refine LeO.bind ?_ (fun _ => ?_))
      | exact ih0 _ _
      | exact ih1 _ _ _ _
      | exact ih2 _ _ _ _ _ _ _ _
      | exact ih3 _ _ _ _ _ _ _ _ _
      | exact word_named.mono _ _
      | exact LeO.none _
      | refine LeO.ite ?_ ?_
      | refine LeO.bind ?_ (fun _ => ?_)
    · intro y0 y1 y2 y3 y4 y5 y6 y7
      unfold word_Check.j2
      repeat' first
      | (with_reducible exact ih0 _ _)
      | (with_reducible exact ih1 _ _ _ _)
      | (with_reducible exact ih2 _ _ _ _ _ _ _ _)
      | (with_reducible exact ih3 _ _ _ _ _ _ _ _ _)
      | (with_reducible exact word_named.mono _ _)
      | (with_reducible exact LeO.refl _)
      | (with_reducible exact LeO.none _)
      | (with_reducible refine LeO.ite ?_ ?_)
      | (with_reducible refine LeO.bind ?_ (fun _ => ?_))
      | exact ih0 _ _
      | exact ih1 _ _ _ _
      | exact ih2 _ _ _ _ _ _ _ _
      | exact ih3 _ _ _ _ _ _ _ _ _
      | exact word_named.mono _ _
      | exact LeO.none _
      | refine LeO.ite ?_ ?_
      | refine LeO.bind ?_ (fun _ => ?_)
    · intro y0 y1 y2 y3 y4 y5 y6 y7 y8
      unfold word_Check.l1
      repeat' first
      | (with_reducible exact ih0 _ _)
      | (with_reducible exact ih1 _ _ _ _)
      | (with_reducible exact ih2 _ _ _ _ _ _ _ _)
      | (with_reducible exact ih3 _ _ _ _ _ _ _ _ _)
      | (with_reducible exact word_named.mono _ _)
      | (with_reducible exact LeO.refl _)
      | (with_reducible exact LeO.none _)
      | (with_reducible refine LeO.ite ?_ ?_)
      | (with_reducible refine LeO.bind ?_ (fun _ => ?_))
      | exact ih0 _ _
      | exact ih1 _ _ _ _
      | exact ih2 _ _ _ _ _ _ _ _
      | exact ih3 _ _ _ _ _ _ _ _ _
      | exact word_named.mono _ _
      | exact LeO.none _
      | refine LeO.ite ?_ ?_
      | refine LeO.bind ?_ (fun _ => ?_)
theorem word_Check.mono : ∀ a0 k, LeO (word_Check.f k a0) (word_Check.f (k + 1) a0) := by
  intro a0 k
  obtain ⟨ih0, ih1, ih2, ih3⟩ := word_Check.mono_l k
  unfold word_Check.f
  repeat' first
      | (with_reducible exact ih0 _ _)
      | (with_reducible exact ih1 _ _ _ _)
      | (with_reducible exact ih2 _ _ _ _ _ _ _ _)
      | (with_reducible exact ih3 _ _ _ _ _ _ _ _ _)
      | (with_reducible exact word_named.mono _ _)
      | (with_reducible exact LeO.refl _)
      | (with_reducible exact LeO.none _)
      | (with_reducible refine LeO.ite ?_ ?_)
      | (with_reducible refine LeO.bind ?_ (fun _ => ?_))
      | exact ih0 _ _
      | exact ih1 _ _ _ _
      | exact ih2 _ _ _ _ _ _ _ _
      | exact ih3 _ _ _ _ _ _ _ _ _
      | exact word_named.mono _ _
      | exact LeO.none _
      | refine LeO.ite ?_ ?_
      | refine LeO.bind ?_ (fun _ => ?_)
set_option maxHeartbeats 8000000 in
set_option maxRecDepth 100000 in
theorem word_Check.calls (k : Nat) (A0 : Option Addr) (c0 : Nat) (l0 : List (S40)) (r : Int) (w : World) (hr0 : Kd.C k40 w A0 l0.length l0) (hc0 : l0.length ≤ c0) (h : word_Check.f k l0 = some r) :
    Calls Try.prog 23 #[.slice A0 l0.length c0] w fun e w' => e = .returned (.int .i64 r) ∧ Below w.heap.size w w' := by
  have hu40 := Try.underlying40
  have HR0 := Aside0.mk hr0
  have HC0 := Aside0.mk hc0
  clear hr0 hc0
  have HB := Aside0.mk (Below.refl w.heap.size w)
  have H : (if (l0.length : Int) = 0 then (word_Check.j0 k l0 true) else (word_Check.j0 k l0 (decide ((l0.length : Int) > 20)))) = some r := h
  clear h
  have HC2 := Aside0.mk H
  clear H
  go_enter Try.func23, Try.ntmps23
  go_upto_region 1 with (fail)
  go_cut [14] (fun v14 wc => ∃ (kq : Nat) (x14_1 : Bool), v14 = .bool x14_1 ∧ Aside0 (word_Check.j0 kq l0 x14_1 = some r) ∧ Aside0 (kq ≤ k) ∧ Aside0 (Below w.heap.size w wc))
  case first =>
    have H := HC2.out
    clear HC2
    by_cases c3 : (l0.length : Int) = 0
    · rw [if_pos c3] at H
      have c3b0 : ((l0.length : Int) == 0) = true := beq_iff_eq.mpr c3
      have c3b1 : ((l0.length : Int) != 0) = false := bne_eq_false_iff_eq.mpr c3
      clear c3
      (first | rw [c3b0] | (simp only [i64_w, i32_w]; rw [c3b0]) | skip)
      have H' := Aside0.mk H
      clear H
      go_wp2
      go_meet
      case rel => exact ⟨_, (true), (by first | rfl | (simp; done) | (simp [*]; done)), H', ⟨by first | omega | exact Nat.le_refl _⟩, ⟨by repeat (first | (with_reducible first | exact HB.out | apply below_alloc | apply pw_below_drewN | apply below_drew1) | exact HB.out)⟩⟩
    · rw [if_neg c3] at H
      have c3b0 : ((l0.length : Int) == 0) = false := beq_eq_false_iff_ne.mpr c3
      have c3b1 : ((l0.length : Int) != 0) = true := bne_iff_ne.mpr c3
      have c3b2 : ¬ (l0 = []) := fun h_ => c3 (by rw [h_]; rfl)
      (first | rw [c3b0] | (simp only [i64_w, i32_w]; rw [c3b0]) | skip)
      have H' := Aside0.mk H
      clear H
      go_wp2
      go_meet
      case rel => exact ⟨_, (decide ((l0.length : Int) > 20)), (by first | rfl | (simp; done) | (simp [*]; done)), H', ⟨by first | omega | exact Nat.le_refl _⟩, ⟨by repeat (first | (with_reducible first | exact HB.out | apply below_alloc | apply pw_below_drewN | apply below_drew1) | exact HB.out)⟩⟩
  case rest =>
    clear HC2
    try clear c2
    try clear p2
    try clear c3
    try clear c3b0
    try clear c3b1
    try clear c3b2
    obtain ⟨kq, x14_1, rfl, HA, HJ1, HB⟩ := hcut
    cases kq with
    | zero => exact absurd HA.out (by simp [word_Check.j0])
    | succ kj1 =>
      have H := HA.out
      clear HA
      simp only [word_Check.j0] at H
      by_cases c4 : x14_1 = true
      · subst c4
        have H1 : (some 2) = some r := by rw [if_pos rfl] at H; exact H
        clear H
        have H := H1
        clear H1
        obtain rfl := Option.some.inj H
        go_wp2
        go_ret
        exact ⟨by first | rfl | (simp [errW_none, errW_some] <;> rfl) | (simp [*, errW_none, errW_some] <;> rfl), by repeat (first | (with_reducible first | exact HB.out | apply below_alloc | apply pw_below_drewN | apply below_drew1) | exact HB.out)⟩
      · replace c4 := Bool.eq_false_iff.mpr c4
        subst c4
        have H1 : (word_Check.l0 kj1 l0 l0 (l0.length : Int) 0) = some r := by rw [if_neg (show ¬ (false = true) by decide)] at H; exact H
        clear H
        have H := H1
        clear H1
        have H' := Aside0.mk H
        clear H
        go_wp2
        go_loopg [17] kj1 (fun kq v17 w' => ∃ (x17_2 : Int), v17 = .int .i64 x17_2 ∧ Aside0 (word_Check.l0 kq l0 l0 (l0.length : Int) x17_2 = some r) ∧ Aside0 (kq ≤ kj1) ∧ Aside0 (Below w.heap.size w w'))
        case atStart => exact ⟨(0), (by first | rfl | (simp; done) | (simp [*]; done)), H', ⟨Nat.le_refl _⟩, ⟨by repeat (first | (with_reducible first | exact HB.out | apply below_alloc | apply pw_below_drewN | apply below_drew1) | exact HB.out)⟩⟩
        case round =>
          clear H'
          try clear c2
          try clear p2
          try clear c3
          try clear c3b0
          try clear c3b1
          try clear c3b2
          try clear c4
          try clear p2
          obtain ⟨x17_2, rfl, HA, HK2, HB⟩ := hrel
          cases gk with
          | zero => exact absurd HA.out (by simp [word_Check.l0])
          | succ k2 =>
            have H := HA.out
            clear HA
            simp only [word_Check.l0] at H
            by_cases c5 : x17_2 < (l0.length : Int)
            · rw [if_pos c5] at H
              have c5b0 : decide (x17_2 < (l0.length : Int)) = true := decide_eq_true c5
              clear c5
              by_cases c6 : 0 ≤ x17_2
              · rw [if_pos c6] at H
                have c6b0 : decide (0 ≤ x17_2) = true := decide_eq_true c6
                clear c6
                by_cases c7 : x17_2 < (l0.length : Int)
                · rw [if_pos c7] at H
                  have c7b0 : decide (x17_2 < (l0.length : Int)) = true := decide_eq_true c7
                  clear c7
                  replace H := Option.bind_eq_some_iff.mp H
                  obtain ⟨t161, A80, H⟩ := H
                  replace H : (if t161 = true then (if ((rd_T40 l0 x17_2).f1) < 1 then (word_Check.j2 k2 l0 x17_2 l0 (l0.length : Int) x17_2 true ((rd_T40 l0 x17_2).f0) ((rd_T40 l0 x17_2).f1)) else (word_Check.j2 k2 l0 x17_2 l0 (l0.length : Int) x17_2 (decide (((rd_T40 l0 x17_2).f1) > 3)) ((rd_T40 l0 x17_2).f0) ((rd_T40 l0 x17_2).f1))) else (some 4)) = some r := H
                  have A8 := Aside0.mk A80
                  clear A80
                  by_cases c9 : t161 = true
                  · subst c9
                    have H1 : (if ((rd_T40 l0 x17_2).f1) < 1 then (word_Check.j2 k2 l0 x17_2 l0 (l0.length : Int) x17_2 true ((rd_T40 l0 x17_2).f0) ((rd_T40 l0 x17_2).f1)) else (word_Check.j2 k2 l0 x17_2 l0 (l0.length : Int) x17_2 (decide (((rd_T40 l0 x17_2).f1) > 3)) ((rd_T40 l0 x17_2).f0) ((rd_T40 l0 x17_2).f1))) = some r := by rw [if_pos rfl] at H; exact H
                    clear H
                    have H := H1
                    clear H1
                    have HC10 := Aside0.mk H
                    clear H
                    have p159 : 0 ≤ (x17_2 : Int) := of_decide_eq_true (by first | (with_reducible assumption) | assumption)
                    have q159 : x17_2 < (l0.length : Int) := of_decide_eq_true (by first | (with_reducible assumption) | assumption)
                    obtain ⟨ad159, e159, hx159_0, hx159_1⟩ := at_T40 HR0.out x17_2 p159 q159
                    cases e159
                    replace hx159_0 := (HB.out.cell (World.block_lt_of_cell? w _ hx159_0)).trans hx159_0
                    replace hx159_1 := (HB.out.cell (World.block_lt_of_cell? w _ hx159_1)).trans hx159_1
                    replace p159 := eq_true p159
                    replace q159 := eq_true q159
                    go_upto_region 8 with (first | ((with_reducible refine gate_dst (N := 4) rfl ?_); refine box_event ?hg (N := 4) ?hd (cs := #[.string (⟨#[]⟩ : ByteArray), .int .i64 0]) (t := 40) ?hr ?_; (case hd => rfl); (case hg => rfl); (case hr => first | (go_simp; done) | (go_simp; rfl)); intro gb160 hg w11 hbox hb; have n0_ := Aside0.mk (below_step (by repeat (first | (with_reducible first | exact HB.out | apply below_alloc | apply pw_below_drewN | apply below_drew1) | exact HB.out)) hb); have n1_ := Aside0.mk (hbox); have n2_ := Aside0.mk ((by rw [hg]; exact (below_size (by repeat (first | (with_reducible first | exact HB.out | apply below_alloc | apply pw_below_drewN | apply below_drew1) | exact HB.out))) : w.heap.size ≤ gb160)); have n3_ := Aside0.mk ((by rw [hg]; exact (below_size (by repeat (first | (with_reducible first | exact HB.out | apply below_alloc | apply pw_below_drewN | apply below_drew1) | exact HB.out))) : w.heap.size ≤ gb160)); clear HB; have HB := n0_; have BK160 := n1_; have GW160 := n2_; have GE160 := n3_; clear n0_ n1_ n2_ n3_; clear hb hbox hg; have hcz12_0 : w11.cell? ⟨gb160, 0, none⟩ = some (.string (⟨#[]⟩ : ByteArray)) := (blk_cell BK160.out 0).trans rfl; have hcz12_1 : w11.cell? ⟨gb160, 1, none⟩ = some (.int .i64 0) := (blk_cell BK160.out 1).trans rfl; have hfz12_0 := blk_frozen BK160.out 0; have hfz12_1 := blk_frozen BK160.out 1) | ((with_reducible refine gate_callee (f := 38) rfl ?_); refine goesL_ (some 24) rfl rfl Try.func38 (by kernel_rfl) rfl #[.string ((rd_T40 l0 x17_2).f0)] rfl (by (try simp only [List.map_toArray, List.map_cons, List.map_nil]); first | done | rfl | (simp only [List.length_drop, List.length_take]; rfl)) ?_; (with_reducible refine (word_named.calls k2 ((rd_T40 l0 x17_2).f0) true _ A8.out).mono ?_); rintro e w' ⟨rfl, ⟨nd, rfl⟩⟩; refine ⟨_, rfl, ?_⟩))
                    (try simp only [Act.put, List.setIfInBounds_toArray, List.set_cons_zero, List.set_cons_succ])
                    go_cut [33] (fun v33 wc => ∃ (kq : Nat) (x33_9 : Bool), v33 = .bool x33_9 ∧ Aside0 (word_Check.j2 kq l0 x17_2 l0 (l0.length : Int) x17_2 x33_9 ((rd_T40 l0 x17_2).f0) ((rd_T40 l0 x17_2).f1) = some r) ∧ Aside0 (kq ≤ k2) ∧ Aside0 (wc.heap[gb160]? = some (.cells #[.string ((rd_T40 l0 x17_2).f0), .int .i64 ((rd_T40 l0 x17_2).f1)] 40 (0, 0))) ∧ Aside0 (Below w.heap.size w wc))
                    case first =>
                      have H := HC10.out
                      clear HC10
                      by_cases c13 : ((rd_T40 l0 x17_2).f1) < 1
                      · rw [if_pos c13] at H
                        have c13b0 : decide (((rd_T40 l0 x17_2).f1) < 1) = true := decide_eq_true c13
                        clear c13
                        (first | rw [c13b0] | (simp only [i64_w, i32_w]; rw [c13b0]) | skip)
                        have H' := Aside0.mk H
                        clear H
                        have hcz14_0 : w11.cell? ⟨gb160, 0, none⟩ = some (.string (⟨#[]⟩ : ByteArray)) := (blk_cell BK160.out 0).trans rfl
                        have hcz14_1 : w11.cell? ⟨gb160, 1, none⟩ = some (.int .i64 0) := (blk_cell BK160.out 1).trans rfl
                        have hfz14_0 := blk_frozen BK160.out 0
                        have hfz14_1 := blk_frozen BK160.out 1
                        go_wp2
                        go_meet
                        case rel => exact ⟨_, (true), (by first | rfl | (simp; done) | (simp [*]; done)), H', ⟨by have := HJ1.out; have := HK2.out; first | omega | exact Nat.le_refl _⟩, ⟨by (with_reducible repeat (first | refine blk_drewN ?_ _ | refine blk_drew ?_ | refine blk_alloc ?_ _)); refine blk_put (cs := #[.string ((rd_T40 l0 x17_2).f0), .int .i64 0]) ?_ 1 _ rfl; (with_reducible repeat (first | refine blk_drewN ?_ _ | refine blk_drew ?_ | refine blk_alloc ?_ _)); refine blk_put (cs := #[.string (⟨#[]⟩ : ByteArray), .int .i64 0]) ?_ 0 _ rfl; (with_reducible repeat (first | refine blk_drewN ?_ _ | refine blk_drew ?_ | refine blk_alloc ?_ _)); exact BK160.out⟩, ⟨by repeat (first | (with_reducible first | exact HB.out | apply below_alloc | apply pw_below_drewN | apply below_drew1 | refine below_set ?_ GE160.out) | exact HB.out)⟩⟩
                      · rw [if_neg c13] at H
                        have c13b0 : decide (((rd_T40 l0 x17_2).f1) < 1) = false := decide_eq_false c13
                        clear c13
                        (first | rw [c13b0] | (simp only [i64_w, i32_w]; rw [c13b0]) | skip)
                        have H' := Aside0.mk H
                        clear H
                        have hcz15_0 : w11.cell? ⟨gb160, 0, none⟩ = some (.string (⟨#[]⟩ : ByteArray)) := (blk_cell BK160.out 0).trans rfl
                        have hcz15_1 : w11.cell? ⟨gb160, 1, none⟩ = some (.int .i64 0) := (blk_cell BK160.out 1).trans rfl
                        have hfz15_0 := blk_frozen BK160.out 0
                        have hfz15_1 := blk_frozen BK160.out 1
                        go_wp2
                        go_meet
                        case rel => exact ⟨_, (decide (((rd_T40 l0 x17_2).f1) > 3)), (by first | rfl | (simp; done) | (simp [*]; done)), H', ⟨by have := HJ1.out; have := HK2.out; first | omega | exact Nat.le_refl _⟩, ⟨by (with_reducible repeat (first | refine blk_drewN ?_ _ | refine blk_drew ?_ | refine blk_alloc ?_ _)); refine blk_put (cs := #[.string ((rd_T40 l0 x17_2).f0), .int .i64 0]) ?_ 1 _ rfl; (with_reducible repeat (first | refine blk_drewN ?_ _ | refine blk_drew ?_ | refine blk_alloc ?_ _)); refine blk_put (cs := #[.string (⟨#[]⟩ : ByteArray), .int .i64 0]) ?_ 0 _ rfl; (with_reducible repeat (first | refine blk_drewN ?_ _ | refine blk_drew ?_ | refine blk_alloc ?_ _)); exact BK160.out⟩, ⟨by repeat (first | (with_reducible first | exact HB.out | apply below_alloc | apply pw_below_drewN | apply below_drew1 | refine below_set ?_ GE160.out) | exact HB.out)⟩⟩
                    case rest =>
                      clear HC10
                      try clear c1
                      try clear p1
                      try clear q1
                      try clear hx1
                      try clear c2
                      try clear p2
                      try clear c3
                      try clear c3b0
                      try clear c3b1
                      try clear c3b2
                      try clear c4
                      try clear c5
                      try clear c5b0
                      try clear c6
                      try clear c6b0
                      try clear c7
                      try clear c7b0
                      try clear c9
                      try clear c13
                      try clear c13b0
                      try clear p15
                      try clear q15
                      try clear hx15
                      try clear hcz12_0
                      try clear hcz12_1
                      try clear hcz14_0
                      try clear hcz14_1
                      try clear hcz15_0
                      try clear hcz15_1
                      try clear hfz12_0
                      try clear hfz12_1
                      try clear hfz14_0
                      try clear hfz14_1
                      try clear hfz15_0
                      try clear hfz15_1
                      try clear hx159_0
                      try clear hx159_1
                      try clear p159
                      try clear p2
                      try clear q159
                      obtain ⟨kq, x33_9, rfl, HA, HJ9, BK160, HB⟩ := hcut
                      cases kq with
                      | zero => exact absurd HA.out (by simp [word_Check.j2])
                      | succ kj9 =>
                        have H := HA.out
                        clear HA
                        simp only [word_Check.j2] at H
                        by_cases c16 : x33_9 = true
                        · subst c16
                          have H1 : (some 7) = some r := by rw [if_pos rfl] at H; exact H
                          clear H
                          have H := H1
                          clear H1
                          obtain rfl := Option.some.inj H
                          go_wp2
                          go_ret
                          exact ⟨by first | rfl | (simp [errW_none, errW_some] <;> rfl) | (simp [*, errW_none, errW_some] <;> rfl), by repeat (first | (with_reducible first | exact HB.out | apply below_alloc | apply pw_below_drewN | apply below_drew1 | refine below_set ?_ GE160.out) | exact HB.out)⟩
                        · replace c16 := Bool.eq_false_iff.mpr c16
                          subst c16
                          have H1 : (if 0 ≤ x17_2 then (if x17_2 ≤ (l0.length : Int) then ((some (l0.take (x17_2 : Int).toNat : List (S40))).bind fun y162 => (word_Check.l1 kj9 l0 l0 (l0.length : Int) x17_2 y162 (y162.length : Int) 0 ((rd_T40 l0 x17_2).f0) ((rd_T40 l0 x17_2).f1))) else (none)) else (none)) = some r := by rw [if_neg (show ¬ (false = true) by decide)] at H; exact H
                          clear H
                          have H := H1
                          clear H1
                          by_cases c17 : 0 ≤ x17_2
                          · rw [if_pos c17] at H
                            have c17b0 := eq_true c17
                            have c17b1 : decide (0 ≤ x17_2) = true := decide_eq_true c17
                            clear c17
                            by_cases c18 : x17_2 ≤ (l0.length : Int)
                            · rw [if_pos c18] at H
                              have c18b0 := eq_true c18
                              have c18b1 : decide (x17_2 ≤ (l0.length : Int)) = true := decide_eq_true c18
                              clear c18
                              obtain ⟨y162, hy162⟩ : ∃ y_ : List (S40), y_ = (l0.take (x17_2 : Int).toNat) := ⟨_, rfl⟩
                              replace H : (word_Check.l1 kj9 l0 l0 (l0.length : Int) x17_2 y162 (y162.length : Int) 0 ((rd_T40 l0 x17_2).f0) ((rd_T40 l0 x17_2).f1)) = some r := by first | (rw [hy162]; with_reducible exact H) | (have H2_ := (Option.bind_some _ _).symm.trans H; rw [hy162]; with_reducible exact H2_) | (have H2_ := (Option.bind_some _ _).symm.trans H; with_reducible exact H2_) | with_reducible exact H | (rw [hy162]; exact H) | exact H
                              have Ny162 := Aside0.mk hy162
                              clear hy162
                              have H' := Aside0.mk H
                              clear H
                              have q19 : (x17_2 : Int) ≤ ((l0.length : Int) : Int) := of_decide_eq_true (by first | (with_reducible assumption) | assumption)
                              obtain ⟨i019, hi019, _, hsz19, _⟩ := info_parts info40
                              have hroom19 : l0.length ≤ c0 := HC0.out
                              have hC19 : Kd.C k40 _ (some ad159) l0.length l0 := HR0.out
                              have hcut19 := cut_to (P := Try.prog) 24 40 .i64 Try.underlying24 hi019 (some ad159) l0.length c0 x17_2 (of_decide_eq_true (by first | (with_reducible assumption) | assumption)) q19 hroom19
                              have hr19 := Kd.C_take (m := (x17_2 : Int).toNat) hC19 (by omega)
                              have hy19 : y162.length = (x17_2 : Int).toNat := (by rw [Ny162.out, List.length_take]; omega)
                              rw [← Ny162.out] at hr19
                              rw [← hy19] at hcut19
                              have HR165 := Aside0.mk hr19
                              have HC165 := Aside0.mk (show y162.length ≤ c0 from by omega)
                              clear hr19 hC19 hroom19 hi019 hsz19
                              have KY19 := Aside0.mk hy19
                              clear hy19
                              replace q19 := eq_true q19
                              go_wp2
                              go_loopg [38] kj9 (fun kq v38 w' => ∃ (x38_4 : Int), v38 = .int .i64 x38_4 ∧ Aside0 (word_Check.l1 kq l0 l0 (l0.length : Int) x17_2 y162 (y162.length : Int) x38_4 ((rd_T40 l0 x17_2).f0) ((rd_T40 l0 x17_2).f1) = some r) ∧ Aside0 (kq ≤ kj9) ∧ Aside0 (w'.heap[gb160]? = some (.cells #[.string ((rd_T40 l0 x17_2).f0), .int .i64 ((rd_T40 l0 x17_2).f1)] 40 (0, 0))) ∧ Aside0 (Below w.heap.size w w'))
                              case atStart => exact ⟨(0), (by first | rfl | (simp; done) | (simp [*]; done)), H', ⟨Nat.le_refl _⟩, ⟨by (with_reducible repeat (first | refine blk_drewN ?_ _ | refine blk_drew ?_ | refine blk_alloc ?_ _)); exact BK160.out⟩, ⟨by repeat (first | (with_reducible first | exact HB.out | apply below_alloc | apply pw_below_drewN | apply below_drew1 | refine below_set ?_ GE160.out) | exact HB.out)⟩⟩
                              case round =>
                                clear H'
                                try clear c1
                                try clear p1
                                try clear q1
                                try clear hx1
                                try clear c2
                                try clear p2
                                try clear c3
                                try clear c3b0
                                try clear c3b1
                                try clear c3b2
                                try clear c4
                                try clear c5
                                try clear c5b0
                                try clear c6
                                try clear c6b0
                                try clear c7
                                try clear c7b0
                                try clear c9
                                try clear c13
                                try clear c13b0
                                try clear p15
                                try clear q15
                                try clear hx15
                                try clear c16
                                try clear c17
                                try clear c17b0
                                try clear c17b1
                                try clear c18
                                try clear c18b0
                                try clear c18b1
                                try clear q19
                                try clear hcz12_0
                                try clear hcz12_1
                                try clear hcz14_0
                                try clear hcz14_1
                                try clear hcz15_0
                                try clear hcz15_1
                                try clear hfz12_0
                                try clear hfz12_1
                                try clear hfz14_0
                                try clear hfz14_1
                                try clear hfz15_0
                                try clear hfz15_1
                                try clear hx159_0
                                try clear hx159_1
                                try clear p1
                                try clear p15
                                try clear p159
                                try clear p2
                                try clear q1
                                try clear q15
                                try clear q159
                                try clear q19
                                obtain ⟨x38_4, rfl, HA, HK4, BK160, HB⟩ := hrel
                                cases gk with
                                | zero => exact absurd HA.out (by simp [word_Check.l1])
                                | succ k4 =>
                                  have H := HA.out
                                  clear HA
                                  simp only [word_Check.l1] at H
                                  by_cases c20 : x38_4 < (y162.length : Int)
                                  · rw [if_pos c20] at H
                                    have c20b0 : decide (x38_4 < (y162.length : Int)) = true := decide_eq_true c20
                                    clear c20
                                    by_cases c21 : 0 ≤ x38_4
                                    · rw [if_pos c21] at H
                                      have c21b0 : decide (0 ≤ x38_4) = true := decide_eq_true c21
                                      clear c21
                                      by_cases c22 : x38_4 < (y162.length : Int)
                                      · rw [if_pos c22] at H
                                        have c22b0 : decide (x38_4 < (y162.length : Int)) = true := decide_eq_true c22
                                        clear c22
                                        by_cases c23 : (((rd_T40 l0 x17_2).f0).toList == (((rd_T40 y162 x38_4).f0).toList) && (((rd_T40 l0 x17_2).f1) == ((rd_T40 y162 x38_4).f1))) = true
                                        · rw [if_pos c23] at H
                                          have c23b0 : (((rd_T40 l0 x17_2).f0).toList == (((rd_T40 y162 x38_4).f0).toList) && (((rd_T40 l0 x17_2).f1) == ((rd_T40 y162 x38_4).f1))) = true := c23
                                          (try (have c23b1 : decide (((rd_T40 l0 x17_2).f0).toList = (((rd_T40 y162 x38_4).f0).toList) && (((rd_T40 l0 x17_2).f1) == ((rd_T40 y162 x38_4).f1))) = true := by simpa using c23))
                                          (try (have c23b2 : (((rd_T40 l0 x17_2).f0).toList == (((rd_T40 y162 x38_4).f0).toList) && (((rd_T40 l0 x17_2).f1) == ((rd_T40 y162 x38_4).f1))) = true := by simpa using c23))
                                          clear c23
                                          obtain rfl := Option.some.inj H
                                          have p166 : 0 ≤ (x38_4 : Int) := of_decide_eq_true (by first | (with_reducible assumption) | assumption)
                                          have q166 : x38_4 < (y162.length : Int) := of_decide_eq_true (by first | (with_reducible assumption) | assumption)
                                          obtain ⟨ad166, e166, hx166_0, hx166_1⟩ := at_T40 HR165.out x38_4 p166 q166
                                          obtain rfl : ad159 = ad166 := (by injection e166)
                                          replace hx166_0 := (HB.out.cell (World.block_lt_of_cell? w _ hx166_0)).trans hx166_0
                                          replace hx166_1 := (HB.out.cell (World.block_lt_of_cell? w _ hx166_1)).trans hx166_1
                                          replace p166 := eq_true p166
                                          replace q166 := eq_true q166
                                          go_wp2_with (first | ((with_reducible refine gate_dst (N := 6) rfl ?_); refine box_event ?hg (N := 6) ?hd (cs := #[.string (⟨#[]⟩ : ByteArray), .int .i64 0]) (t := 40) ?hr ?_; (case hd => rfl); (case hg => rfl); (case hr => first | (go_simp; done) | (go_simp; rfl)); intro gb167 hg w24 hbox hb; have n0_ := Aside0.mk (blk_below (g := gb160) (o := .cells #[.string ((rd_T40 l0 x17_2).f0), .int .i64 ((rd_T40 l0 x17_2).f1)] 40 (0, 0)) (by (with_reducible repeat (first | refine blk_drewN ?_ _ | refine blk_drew ?_ | refine blk_alloc ?_ _)); exact BK160.out) hb); have n1_ := Aside0.mk (below_step (by repeat (first | (with_reducible first | exact HB.out | apply below_alloc | apply pw_below_drewN | apply below_drew1 | refine below_set ?_ GE160.out) | exact HB.out)) hb); have n2_ := Aside0.mk (hbox); have n3_ := Aside0.mk ((by rw [hg]; exact (below_size (by repeat (first | (with_reducible first | exact HB.out | apply below_alloc | apply pw_below_drewN | apply below_drew1 | refine below_set ?_ GE160.out) | exact HB.out))) : w.heap.size ≤ gb167)); have n4_ := Aside0.mk ((by rw [hg]; exact (below_size (by repeat (first | (with_reducible first | exact HB.out | apply below_alloc | apply pw_below_drewN | apply below_drew1 | refine below_set ?_ GE160.out) | exact HB.out))) : w.heap.size ≤ gb167)); have n5_ := Aside0.mk ((by rw [hg]; exact Nat.ne_of_lt (blk_lt (g := gb160) (o := .cells #[.string ((rd_T40 l0 x17_2).f0), .int .i64 ((rd_T40 l0 x17_2).f1)] 40 (0, 0)) (by (with_reducible repeat (first | refine blk_drewN ?_ _ | refine blk_drew ?_ | refine blk_alloc ?_ _)); exact BK160.out)) : gb160 ≠ gb167)); have n6_ := Aside0.mk ((by rw [hg]; exact Nat.ne_of_gt (blk_lt (g := gb160) (o := .cells #[.string ((rd_T40 l0 x17_2).f0), .int .i64 ((rd_T40 l0 x17_2).f1)] 40 (0, 0)) (by (with_reducible repeat (first | refine blk_drewN ?_ _ | refine blk_drew ?_ | refine blk_alloc ?_ _)); exact BK160.out)) : gb167 ≠ gb160)); clear BK160; clear HB; have BK160 := n0_; have HB := n1_; have BK167 := n2_; have GW167 := n3_; have GE167 := n4_; have NB160_167 := n5_; have NB167_160 := n6_; clear n0_ n1_ n2_ n3_ n4_ n5_ n6_; clear hb hbox hg; have hnb25 := NB167_160.out; have hnc25 := NB160_167.out; have hcz26_0 : w24.cell? ⟨gb167, 0, none⟩ = some (.string (⟨#[]⟩ : ByteArray)) := (blk_cell BK167.out 0).trans rfl; have hcz26_1 : w24.cell? ⟨gb167, 1, none⟩ = some (.int .i64 0) := (blk_cell BK167.out 1).trans rfl; have hfz26_0 := blk_frozen BK167.out 0; have hfz26_1 := blk_frozen BK167.out 1; have hcz27_0 : w24.cell? ⟨gb160, 0, none⟩ = some (.string ((rd_T40 l0 x17_2).f0)) := (blk_cell BK160.out 0).trans rfl; have hcz27_1 : w24.cell? ⟨gb160, 1, none⟩ = some (.int .i64 ((rd_T40 l0 x17_2).f1)) := (blk_cell BK160.out 1).trans rfl; have hfz27_0 := blk_frozen BK160.out 0; have hfz27_1 := blk_frozen BK160.out 1))
                                          go_ret
                                          exact ⟨by first | rfl | (simp [errW_none, errW_some] <;> rfl) | (simp [*, errW_none, errW_some] <;> rfl), by repeat (first | (with_reducible first | exact HB.out | apply below_alloc | apply pw_below_drewN | apply below_drew1 | refine below_set ?_ GE160.out | refine below_set ?_ GE167.out) | exact HB.out)⟩
                                        · rw [if_neg c23] at H
                                          have c23b0 : (((rd_T40 l0 x17_2).f0).toList == (((rd_T40 y162 x38_4).f0).toList) && (((rd_T40 l0 x17_2).f1) == ((rd_T40 y162 x38_4).f1))) = false := by simpa using c23
                                          (try (have c23b1 : decide (((rd_T40 l0 x17_2).f0).toList = (((rd_T40 y162 x38_4).f0).toList) && (((rd_T40 l0 x17_2).f1) == ((rd_T40 y162 x38_4).f1))) = false := by simpa using c23))
                                          (try (have c23b2 : (((rd_T40 l0 x17_2).f0).toList == (((rd_T40 y162 x38_4).f0).toList) && (((rd_T40 l0 x17_2).f1) == ((rd_T40 y162 x38_4).f1))) = false := by simpa using c23))
                                          (try (have c23b3 : ¬ (((rd_T40 l0 x17_2).f0).toList = (((rd_T40 y162 x38_4).f0).toList) && (((rd_T40 l0 x17_2).f1) == ((rd_T40 y162 x38_4).f1))) := by simpa using c23))
                                          clear c23
                                          have H' := Aside0.mk H
                                          clear H
                                          have p166 : 0 ≤ (x38_4 : Int) := of_decide_eq_true (by first | (with_reducible assumption) | assumption)
                                          have q166 : x38_4 < (y162.length : Int) := of_decide_eq_true (by first | (with_reducible assumption) | assumption)
                                          obtain ⟨ad166, e166, hx166_0, hx166_1⟩ := at_T40 HR165.out x38_4 p166 q166
                                          obtain rfl : ad159 = ad166 := (by injection e166)
                                          replace hx166_0 := (HB.out.cell (World.block_lt_of_cell? w _ hx166_0)).trans hx166_0
                                          replace hx166_1 := (HB.out.cell (World.block_lt_of_cell? w _ hx166_1)).trans hx166_1
                                          replace p166 := eq_true p166
                                          replace q166 := eq_true q166
                                          go_wp2_with (first | ((with_reducible refine gate_dst (N := 6) rfl ?_); refine box_event ?hg (N := 6) ?hd (cs := #[.string (⟨#[]⟩ : ByteArray), .int .i64 0]) (t := 40) ?hr ?_; (case hd => rfl); (case hg => rfl); (case hr => first | (go_simp; done) | (go_simp; rfl)); intro gb167 hg w28 hbox hb; have n0_ := Aside0.mk (blk_below (g := gb160) (o := .cells #[.string ((rd_T40 l0 x17_2).f0), .int .i64 ((rd_T40 l0 x17_2).f1)] 40 (0, 0)) (by (with_reducible repeat (first | refine blk_drewN ?_ _ | refine blk_drew ?_ | refine blk_alloc ?_ _)); exact BK160.out) hb); have n1_ := Aside0.mk (below_step (by repeat (first | (with_reducible first | exact HB.out | apply below_alloc | apply pw_below_drewN | apply below_drew1 | refine below_set ?_ GE160.out) | exact HB.out)) hb); have n2_ := Aside0.mk (hbox); have n3_ := Aside0.mk ((by rw [hg]; exact (below_size (by repeat (first | (with_reducible first | exact HB.out | apply below_alloc | apply pw_below_drewN | apply below_drew1 | refine below_set ?_ GE160.out) | exact HB.out))) : w.heap.size ≤ gb167)); have n4_ := Aside0.mk ((by rw [hg]; exact (below_size (by repeat (first | (with_reducible first | exact HB.out | apply below_alloc | apply pw_below_drewN | apply below_drew1 | refine below_set ?_ GE160.out) | exact HB.out))) : w.heap.size ≤ gb167)); have n5_ := Aside0.mk ((by rw [hg]; exact Nat.ne_of_lt (blk_lt (g := gb160) (o := .cells #[.string ((rd_T40 l0 x17_2).f0), .int .i64 ((rd_T40 l0 x17_2).f1)] 40 (0, 0)) (by (with_reducible repeat (first | refine blk_drewN ?_ _ | refine blk_drew ?_ | refine blk_alloc ?_ _)); exact BK160.out)) : gb160 ≠ gb167)); have n6_ := Aside0.mk ((by rw [hg]; exact Nat.ne_of_gt (blk_lt (g := gb160) (o := .cells #[.string ((rd_T40 l0 x17_2).f0), .int .i64 ((rd_T40 l0 x17_2).f1)] 40 (0, 0)) (by (with_reducible repeat (first | refine blk_drewN ?_ _ | refine blk_drew ?_ | refine blk_alloc ?_ _)); exact BK160.out)) : gb167 ≠ gb160)); clear BK160; clear HB; have BK160 := n0_; have HB := n1_; have BK167 := n2_; have GW167 := n3_; have GE167 := n4_; have NB160_167 := n5_; have NB167_160 := n6_; clear n0_ n1_ n2_ n3_ n4_ n5_ n6_; clear hb hbox hg; have hnb29 := NB167_160.out; have hnc29 := NB160_167.out; have hcz30_0 : w28.cell? ⟨gb167, 0, none⟩ = some (.string (⟨#[]⟩ : ByteArray)) := (blk_cell BK167.out 0).trans rfl; have hcz30_1 : w28.cell? ⟨gb167, 1, none⟩ = some (.int .i64 0) := (blk_cell BK167.out 1).trans rfl; have hfz30_0 := blk_frozen BK167.out 0; have hfz30_1 := blk_frozen BK167.out 1; have hcz31_0 : w28.cell? ⟨gb160, 0, none⟩ = some (.string ((rd_T40 l0 x17_2).f0)) := (blk_cell BK160.out 0).trans rfl; have hcz31_1 : w28.cell? ⟨gb160, 1, none⟩ = some (.int .i64 ((rd_T40 l0 x17_2).f1)) := (blk_cell BK160.out 1).trans rfl; have hfz31_0 := blk_frozen BK160.out 0; have hfz31_1 := blk_frozen BK160.out 1))
                                          go_roundg k4
                                          case measure => have := HJ1.out; have := HK2.out; have := HJ9.out; have := HK4.out; omega
                                          case rel => exact ⟨(wrap64 (x38_4 + 1)), (by first | rfl | (simp; done) | (simp [*]; done)), H', ⟨by have := HJ1.out; have := HK2.out; have := HJ9.out; have := HK4.out; omega⟩, ⟨by (with_reducible repeat (first | refine blk_drewN ?_ _ | refine blk_drew ?_ | refine blk_alloc ?_ _)); refine blk_far ?_ NB160_167.out _; (with_reducible repeat (first | refine blk_drewN ?_ _ | refine blk_drew ?_ | refine blk_alloc ?_ _)); refine blk_far ?_ NB160_167.out _; (with_reducible repeat (first | refine blk_drewN ?_ _ | refine blk_drew ?_ | refine blk_alloc ?_ _)); exact BK160.out⟩, ⟨by repeat (first | (with_reducible first | exact HB.out | apply below_alloc | apply pw_below_drewN | apply below_drew1 | refine below_set ?_ GE160.out | refine below_set ?_ GE167.out) | exact HB.out)⟩⟩
                                      · rw [if_neg c22] at H
                                        exact absurd H (by simp)
                                    · rw [if_neg c21] at H
                                      exact absurd H (by simp)
                                  · rw [if_neg c20] at H
                                    have c20b0 : decide (x38_4 < (y162.length : Int)) = false := decide_eq_false c20
                                    clear c20
                                    have H' := Aside0.mk H
                                    clear H
                                    go_wp2
                                    go_roundg k4
                                    case measure => have := HJ1.out; have := HK2.out; have := HJ9.out; have := HK4.out; omega
                                    case rel => exact ⟨(wrap64 (x17_2 + 1)), (by first | rfl | (simp; done) | (simp [*]; done)), H', ⟨by have := HJ1.out; have := HK2.out; have := HJ9.out; have := HK4.out; omega⟩, ⟨by repeat (first | (with_reducible first | exact HB.out | apply below_alloc | apply pw_below_drewN | apply below_drew1 | refine below_set ?_ GE160.out) | exact HB.out)⟩⟩
                            · rw [if_neg c18] at H
                              exact absurd H (by simp)
                          · rw [if_neg c17] at H
                            exact absurd H (by simp)
                  · replace c9 := Bool.eq_false_iff.mpr c9
                    subst c9
                    have H1 : (some 4) = some r := by rw [if_neg (show ¬ (false = true) by decide)] at H; exact H
                    clear H
                    have H := H1
                    clear H1
                    obtain rfl := Option.some.inj H
                    have p159 : 0 ≤ (x17_2 : Int) := of_decide_eq_true (by first | (with_reducible assumption) | assumption)
                    have q159 : x17_2 < (l0.length : Int) := of_decide_eq_true (by first | (with_reducible assumption) | assumption)
                    obtain ⟨ad159, e159, hx159_0, hx159_1⟩ := at_T40 HR0.out x17_2 p159 q159
                    cases e159
                    replace hx159_0 := (HB.out.cell (World.block_lt_of_cell? w _ hx159_0)).trans hx159_0
                    replace hx159_1 := (HB.out.cell (World.block_lt_of_cell? w _ hx159_1)).trans hx159_1
                    replace p159 := eq_true p159
                    replace q159 := eq_true q159
                    go_wp2_with (first | ((with_reducible refine gate_dst (N := 4) rfl ?_); refine box_event ?hg (N := 4) ?hd (cs := #[.string (⟨#[]⟩ : ByteArray), .int .i64 0]) (t := 40) ?hr ?_; (case hd => rfl); (case hg => rfl); (case hr => first | (go_simp; done) | (go_simp; rfl)); intro gb160 hg w32 hbox hb; have n0_ := Aside0.mk (below_step (by repeat (first | (with_reducible first | exact HB.out | apply below_alloc | apply pw_below_drewN | apply below_drew1) | exact HB.out)) hb); have n1_ := Aside0.mk (hbox); have n2_ := Aside0.mk ((by rw [hg]; exact (below_size (by repeat (first | (with_reducible first | exact HB.out | apply below_alloc | apply pw_below_drewN | apply below_drew1) | exact HB.out))) : w.heap.size ≤ gb160)); have n3_ := Aside0.mk ((by rw [hg]; exact (below_size (by repeat (first | (with_reducible first | exact HB.out | apply below_alloc | apply pw_below_drewN | apply below_drew1) | exact HB.out))) : w.heap.size ≤ gb160)); clear HB; have HB := n0_; have BK160 := n1_; have GW160 := n2_; have GE160 := n3_; clear n0_ n1_ n2_ n3_; clear hb hbox hg; have hcz33_0 : w32.cell? ⟨gb160, 0, none⟩ = some (.string (⟨#[]⟩ : ByteArray)) := (blk_cell BK160.out 0).trans rfl; have hcz33_1 : w32.cell? ⟨gb160, 1, none⟩ = some (.int .i64 0) := (blk_cell BK160.out 1).trans rfl; have hfz33_0 := blk_frozen BK160.out 0; have hfz33_1 := blk_frozen BK160.out 1) | ((with_reducible refine gate_callee (f := 38) rfl ?_); refine goesL_ (some 24) rfl rfl Try.func38 (by kernel_rfl) rfl #[.string ((rd_T40 l0 x17_2).f0)] rfl (by (try simp only [List.map_toArray, List.map_cons, List.map_nil]); first | done | rfl | (simp only [List.length_drop, List.length_take]; rfl)) ?_; (with_reducible refine (word_named.calls k2 ((rd_T40 l0 x17_2).f0) false _ A8.out).mono ?_); rintro e w' ⟨rfl, ⟨nd, rfl⟩⟩; refine ⟨_, rfl, ?_⟩))
                    go_ret
                    exact ⟨by first | rfl | (simp [errW_none, errW_some] <;> rfl) | (simp [*, errW_none, errW_some] <;> rfl), by repeat (first | (with_reducible first | exact HB.out | apply below_alloc | apply pw_below_drewN | apply below_drew1 | refine below_set ?_ GE160.out) | exact HB.out)⟩
                · rw [if_neg c7] at H
                  exact absurd H (by simp)
              · rw [if_neg c6] at H
                exact absurd H (by simp)
            · rw [if_neg c5] at H
              have c5b0 : decide (x17_2 < (l0.length : Int)) = false := decide_eq_false c5
              clear c5
              obtain rfl := Option.some.inj H
              go_wp2
              go_ret
              exact ⟨by first | rfl | (simp [errW_none, errW_some] <;> rfl) | (simp [*, errW_none, errW_some] <;> rfl), by repeat (first | (with_reducible first | exact HB.out | apply below_alloc | apply pw_below_drewN | apply below_drew1) | exact HB.out)⟩

end Go.Proofs.Ytiibfkjfanglbaa.P
