/- What a statement's proof needs: walks of the program's functions, and what they tell (part 5). -/
import Derived.Test.YtodbnnfiadcbaaaC44acaf6488
namespace Go.Proofs.Ytodbnnfiadcbaaa.P
open Go.RowKit Go.Proofs.YtodbnnfiadcbaaaW.PrintWords Go.Proofs.YtodbnnfiadcbaaaW.PrintLast Go.Proofs.YtodbnnfiadcbaaaW.PrintMore Go.Proofs.YtodbnnfiadcbaaaH
attribute [local go_sem] max2_int min2_int max_two min_two max_three min_three max_four min_four   -- for this text's walks alone
set_option linter.unusedVariables false
set_option linter.unusedSimpArgs false

/-! ### canopyref5_loose: function 35 -/
mutual
def canopyref5_loose.j0 : Nat → List (S56) → Bool → Bool → Int → Int → Int → List (S28) → Option (Bool)
 | 0, _, _, _, _, _, _, _ => none
 | k + 1, x0, x2, x22, x835000, x835001, x835002, x835003 => if x22 = true then (some true) else (canopyref5_loose.l0 k x0 x2 0 x835000 x835001 x835002 x835003)
def canopyref5_loose.l0 : Nat → List (S56) → Bool → Int → Int → Int → Int → List (S28) → Option (Bool)
 | 0, _, _, _, _, _, _, _ => none
 | k + 1, x0, x2, x7, x835000, x835001, x835002, x835003 => if x7 < (x835003.length : Int) then (if 0 ≤ x7 then (if x2 = true then ((canopyref5_loose.f k x0 ((rd_T28 x835003 x7).f0) ((rd_T28 x835003 x7).f1) ((rd_T28 x835003 x7).f2) ((rd_T28 x835003 x7).f3) true).bind fun t837 => (if t837 = true then (some true) else (canopyref5_loose.l0 k x0 x2 (wrap64 (x7 + 1)) x835000 x835001 x835002 x835003))) else ((canopyref5_loose.f k x0 ((rd_T28 x835003 x7).f0) ((rd_T28 x835003 x7).f1) ((rd_T28 x835003 x7).f2) ((rd_T28 x835003 x7).f3) (x835000 == 4)).bind fun t838 => (if t838 = true then (some true) else (canopyref5_loose.l0 k x0 x2 (wrap64 (x7 + 1)) x835000 x835001 x835002 x835003)))) else (none)) else (some false)
def canopyref5_loose.f : Nat → List (S56) → Int → Int → Int → List (S28) → Bool → Option (Bool)
 | 0, _, _, _, _, _, _ => none
 | k + 1, l0, a1_0, a1_1, a1_2, l1_3, a2 => if a1_0 = 3 then (if a2 = true then (if 0 ≤ a1_1 then (if a1_1 < (l0.length : Int) then (canopyref5_loose.j0 k l0 a2 (((rd_T56 l0 a1_1).f1) != 3) a1_0 a1_1 a1_2 l1_3) else (none)) else (none)) else (canopyref5_loose.j0 k l0 a2 false a1_0 a1_1 a1_2 l1_3)) else (canopyref5_loose.j0 k l0 a2 false a1_0 a1_1 a1_2 l1_3)
end
theorem canopyref5_loose.mono_l : ∀ k, (∀ y0 y1 y2 y3 y4 y5, LeO (canopyref5_loose.f k y0 y1 y2 y3 y4 y5) (canopyref5_loose.f (k + 1) y0 y1 y2 y3 y4 y5)) ∧ (∀ y0 y1 y2 y3 y4 y5 y6, LeO (canopyref5_loose.j0 k y0 y1 y2 y3 y4 y5 y6) (canopyref5_loose.j0 (k + 1) y0 y1 y2 y3 y4 y5 y6)) ∧ (∀ y0 y1 y2 y3 y4 y5 y6, LeO (canopyref5_loose.l0 k y0 y1 y2 y3 y4 y5 y6) (canopyref5_loose.l0 (k + 1) y0 y1 y2 y3 y4 y5 y6))
 | 0 => ⟨fun _ _ _ _ _ _ r h => by simp [canopyref5_loose.f] at h, fun _ _ _ _ _ _ _ r h => by simp [canopyref5_loose.j0] at h, fun _ _ _ _ _ _ _ r h => by simp [canopyref5_loose.l0] at h⟩
 | k + 1 => by
  obtain ⟨ih0, ih1, ih2⟩ := canopyref5_loose.mono_l k
  refine ⟨?_, ?_, ?_⟩
  ·intro y0 y1 y2 y3 y4 y5
   unfold canopyref5_loose.f
   repeat' first
   | (with_reducible exact ih1 _ _ _ _ _ _ _)
   | (with_reducible exact LeO.refl _)
   | (with_reducible refine LeO.ite ?_ ?_)
  ·intro y0 y1 y2 y3 y4 y5 y6
   unfold canopyref5_loose.j0
   repeat' first
   | (with_reducible exact ih2 _ _ _ _ _ _ _)
   | (with_reducible exact LeO.refl _)
   | (with_reducible refine LeO.ite ?_ ?_)
  ·intro y0 y1 y2 y3 y4 y5 y6
   unfold canopyref5_loose.l0
   repeat' first
   | (with_reducible exact ih0 _ _ _ _ _ _)
   | (with_reducible exact ih2 _ _ _ _ _ _ _)
   | (with_reducible exact LeO.refl _)
   | (with_reducible refine LeO.ite ?_ ?_)
   | (with_reducible refine LeO.bind ?_ (fun _ => ?_))
theorem canopyref5_loose.mono : ∀ a0 a1 a2 a3 a4 a5 k, LeO (canopyref5_loose.f k a0 a1 a2 a3 a4 a5) (canopyref5_loose.f (k + 1) a0 a1 a2 a3 a4 a5) := by
 intro a0 a1 a2 a3 a4 a5 k
 obtain ⟨ih0, ih1, ih2⟩ := canopyref5_loose.mono_l k
 exact ih0 a0 a1 a2 a3 a4 a5
def canopyref5_loose.T6 : Bool × List (List Nat × List Nat) := (true, [([], []), ([], []), ([1], [1]), ([], []), ([2, 3], [2, 3]), ([4], [4]), ([], []), ([6], [6]), ([7], [7]), ([8, 7], [7, 8]), ([9, 7], [7, 9]), ([7, 10], [7, 10]), ([0, 5, 11, 7], [0, 5, 11])])
def canopyref5_loose.B6 : List Nat := [0, 0, 2, 0, 14, 30, 0, 64, 192, 448, 960, 1984, 4095]
theorem canopyref5_loose.tab6 : rtab .any (opsOf Try.f35 6) = canopyref5_loose.T6 := by kernel_rfl
theorem canopyref5_loose.bits6 : waitsOk canopyref5_loose.T6.2 canopyref5_loose.B6 = true := by kernel_rfl
set_option maxHeartbeats 8000000 in
set_option maxRecDepth 100000 in
theorem canopyref5_loose.calls (k : Nat) : ∀ (A0 : Option Addr) (c0 : Nat) (l0 : List (S56)) (a1_0 : Int) (a1_1 : Int) (a1_2 : Int) (A1_3 : Option Addr) (c1_3 : Nat) (l1_3 : List (S28)) (a2 : Bool) (r : Bool) (w : World) (hr0 : Kd.C k56 w A0 l0.length l0) (hc0 : l0.length ≤ c0) (hr1_3 : Kd.C k28 w A1_3 l1_3.length l1_3) (hc1_3 : l1_3.length ≤ c1_3) (h : canopyref5_loose.f k l0 a1_0 a1_1 a1_2 l1_3 a2 = some r),
  Calls Try.prog 35 #[.slice A0 l0.length c0, .agg #[.int .i64 a1_0, .int .i64 a1_1, .int .i64 a1_2, .slice A1_3 l1_3.length c1_3], .bool a2] w fun e w' => e = .returned (.bool r) ∧ Below w.heap.size w w' := by
 induction k using Nat.strongRecOn with
 | _ k ih =>
 intro A0 c0 l0 a1_0 a1_1 a1_2 A1_3 c1_3 l1_3 a2 r w hr0 hc0 hr1_3 hc1_3 h
 cases k with
 | zero => exact absurd h (by simp [canopyref5_loose.f])
 | succ k =>
 simp only [canopyref5_loose.f] at h
 have HR0 := M0 hr0
 have HC0 := M0 hc0
 clear hr0 hc0
 have HR1_3 := M0 hr1_3
 clear hr1_3 hc1_3
 have HB := M0 (Below.refl w.heap.size w)
 have H : (if a1_0 = 3 then (if a2 = true then (if 0 ≤ a1_1 then (if a1_1 < (l0.length : Int) then (canopyref5_loose.j0 k l0 a2 (((rd_T56 l0 a1_1).f1) != 3) a1_0 a1_1 a1_2 l1_3) else (none)) else (none)) else (canopyref5_loose.j0 k l0 a2 false a1_0 a1_1 a1_2 l1_3)) else (canopyref5_loose.j0 k l0 a2 false a1_0 a1_1 a1_2 l1_3)) = some r := h
 clear h
 have HC4 := M0 H
 clear H
 go_enter Try.func35, Try.ntmps35
 go_upto_region 1 with (((with_reducible refine gate_dst (N := 4) rfl ?_); refine box_event ?hg (N := 4) ?hd (cs := #[.int .i64 a1_0, .int .i64 a1_1, .int .i64 a1_2, .slice A1_3 l1_3.length c1_3]) (t := 28) ?hr ?_; (case hd => rfl); (case hg => rfl); (case hr => (go_simp; done)); intro gb834 hg w5 hbox hb; have BK834 := M0 hbox; replace HB := M0 (below_step HB.out hb); clear hb hbox hg))
 (skip)
 go_cut [22] (fun v22 wc => ∃ (kq : Nat) (x22_3 : Bool), v22 = .bool x22_3 ∧ Aside0 (canopyref5_loose.j0 kq l0 a2 x22_3 a1_0 a1_1 a1_2 l1_3 = some r) ∧ Aside0 (kq ≤ k) ∧ Aside0 (wc.heap[gb834]? = some (.cells #[.int .i64 a1_0, .int .i64 a1_1, .int .i64 a1_2, (.slice A1_3 l1_3.length c1_3)] 28 (0, 0))) ∧ Aside0 (Below w.heap.size w wc))
 case first =>
  have H := HC4.out
  clear HC4
  by_cases c6 : a1_0 = 3
  ·rw [if_pos c6] at H
   have c6b0 := bT c6
   clear c6
   (skip)
   by_cases c7 : a2 = true
   ·subst c7
    rw [if_pos rfl] at H
    by_cases c8 : 0 ≤ a1_1
    ·rw [if_pos c8] at H
     have c8b0 := decide_eq_true c8
     clear c8
     by_cases c9 : a1_1 < (l0.length : Int)
     ·rw [if_pos c9] at H
      have c9b0 := decide_eq_true c9
      clear c9
      have H' := M0 H
      clear H
      obtain ⟨_, _, _, _, _, _, _, _⟩ := cells4 BK834.out
      have p835 : 0 ≤ (a1_1 : Int) := of_decide_eq_true (by (with_reducible assumption))
      have q835 : a1_1 < (l0.length : Int) := of_decide_eq_true (by (with_reducible assumption))
      obtain ⟨ad835, e835, hx835_0, hx835_1⟩ := at_T56 HR0.out a1_1 p835 q835
      cases e835
      clear hx835_0
      replace hx835_1 := (HB.out.cell (World.block_lt_of_cell? w _ hx835_1)).trans hx835_1
      replace p835 := eq_true p835
      replace q835 := eq_true q835
      go_wp2
      go_meet
      case rel => exact ⟨_, ((((rd_T56 l0 a1_1).f1) != 3)), (by rfl), H', ⟨by omega⟩, ⟨by exact BK834.out⟩, ⟨by with_reducible exact HB.out⟩⟩
     ·rw [if_neg c9] at H
      exact absurd H (by simp)
    ·rw [if_neg c8] at H
     exact absurd H (by simp)
   ·replace c7 := Bool.eq_false_iff.mpr c7
    subst c7
    rw [if_neg (show ¬ (false = true) by decide)] at H
    have H' := M0 H
    clear H
    obtain ⟨_, _, _, _, _, _, _, _⟩ := cells4 BK834.out
    go_wp2
    go_meet
    case rel => exact ⟨_, (false), (by rfl), H', ⟨by omega⟩, ⟨by exact BK834.out⟩, ⟨by with_reducible exact HB.out⟩⟩
  ·rw [if_neg c6] at H
   have c6b0 := bF c6
   (skip)
   have H' := M0 H
   clear H
   obtain ⟨_, _, _, _, _, _, _, _⟩ := cells4 BK834.out
   go_wp2
   go_meet
   case rel => exact ⟨_, (false), (by rfl), H', ⟨by omega⟩, ⟨by exact BK834.out⟩, ⟨by with_reducible exact HB.out⟩⟩
 case rest =>
  clear HC4
  obtain ⟨kq, x22_3, rfl, HA, HJ3, BK834, HB⟩ := hcut
  cases kq with
  | zero => exact absurd HA.out (by simp [canopyref5_loose.j0])
  | succ kj3 =>
   have H := HA.out
   clear HA
   simp only [canopyref5_loose.j0] at H
   by_cases c13 : x22_3 = true
   ·subst c13
    rw [if_pos rfl] at H
    obtain rfl := Option.some.inj H
    go_wp2
    go_ret
    exact ⟨by rfl, by with_reducible exact HB.out⟩
   ·replace c13 := Bool.eq_false_iff.mpr c13
    subst c13
    rw [if_neg (show ¬ (false = true) by decide)] at H
    have H' := M0 H
    clear H
    go_wp2
    go_loopg [7] kj3 (fun kq v7 w' => ∃ (x7_2 : Int), v7 = .int .i64 x7_2 ∧ Aside0 (canopyref5_loose.l0 kq l0 a2 x7_2 a1_0 a1_1 a1_2 l1_3 = some r) ∧ Aside0 (kq ≤ kj3) ∧ Aside0 (w'.heap[gb834]? = some (.cells #[.int .i64 a1_0, .int .i64 a1_1, .int .i64 a1_2, (.slice A1_3 l1_3.length c1_3)] 28 (0, 0))) ∧ Aside0 (Below w.heap.size w w'))
    case atStart => exact ⟨(0), (by rfl), H', ⟨Nat.le_refl _⟩, ⟨by exact BK834.out⟩, ⟨by with_reducible exact HB.out⟩⟩
    case round =>
     clear H'
     obtain ⟨x7_2, rfl, HA, HK2, BK834, HB⟩ := hrel
     cases gk with
     | zero => exact absurd HA.out (by simp [canopyref5_loose.l0])
     | succ k2 =>
      have H := HA.out
      clear HA
      simp only [canopyref5_loose.l0] at H
      by_cases c14 : x7_2 < (l1_3.length : Int)
      ·rw [if_pos c14] at H
       have c14b0 := decide_eq_true c14
       clear c14
       by_cases c15 : 0 ≤ x7_2
       ·rw [if_pos c15] at H
        have c15b0 := decide_eq_true c15
        clear c15
        by_cases c16 : a2 = true
        ·subst c16
         rw [if_pos rfl] at H
         replace H := Option.bind_eq_some_iff.mp H
         obtain ⟨t837, A170, H⟩ := H
         try dsimp only at H
         have A17 := M0 A170
         clear A170
         by_cases c18 : t837 = true
         ·subst c18
          rw [if_pos rfl] at H
          obtain rfl := Option.some.inj H
          obtain ⟨_, _, _, _, _, _, _, _⟩ := cells4 BK834.out
          go_wp2
          have n0_ := M0 (blk_drew BK834.out)
          have n1_ := M0 (below_drew1 HB.out)
          clear BK834 HB
          have BK834 := n0_
          have HB := n1_
          clear n0_ n1_
          have p836 : 0 ≤ (x7_2 : Int) := of_decide_eq_true (by (with_reducible assumption))
          have q836 : x7_2 < (l1_3.length : Int) := of_decide_eq_true (by (with_reducible assumption))
          obtain ⟨ad836, A836_3, c836_3, e836, hx836_0, hx836_1, hx836_2, hx836_3, hl836_3, hi836_3⟩ := at_T28 HR1_3.out x7_2 p836 q836
          have hw836_3 := hx836_3
          have hw836_2 := hx836_2
          have hw836_1 := hx836_1
          have hw836_0 := hx836_0
          cases e836
          replace hx836_0 := (HB.out.cell (World.block_lt_of_cell? w _ hx836_0)).trans hx836_0
          replace hx836_1 := (HB.out.cell (World.block_lt_of_cell? w _ hx836_1)).trans hx836_1
          replace hx836_2 := (HB.out.cell (World.block_lt_of_cell? w _ hx836_2)).trans hx836_2
          replace hx836_3 := (HB.out.cell (World.block_lt_of_cell? w _ hx836_3)).trans hx836_3
          have HR836_3 := M0 hi836_3
          have HC836_3 := M0 hl836_3
          clear hi836_3 hl836_3
          replace p836 := eq_true p836
          replace q836 := eq_true q836
          refine start_ (n := 13) (S := fun w' => w'.cell? ⟨gb834, 0, none⟩ = some (.int .i64 a1_0) ∧ w'.cell? ⟨gb834, 1, none⟩ = some (.int .i64 a1_1) ∧ w'.cell? ⟨gb834, 2, none⟩ = some (.int .i64 a1_2) ∧ w'.cell? ⟨gb834, 3, none⟩ = some (.slice (some ad836) l1_3.length c1_3) ∧ w'.cell? (ad836.add ((x7_2).toNat * 4)) = some (.int .i64 ((rd_T28 l1_3 x7_2).f0)) ∧ w'.cell? ⟨(ad836.add ((x7_2).toNat * 4)).block, (ad836.add ((x7_2).toNat * 4)).off + 1, none⟩ = some (.int .i64 ((rd_T28 l1_3 x7_2).f1)) ∧ w'.cell? ⟨(ad836.add ((x7_2).toNat * 4)).block, (ad836.add ((x7_2).toNat * 4)).off + 2, none⟩ = some (.int .i64 ((rd_T28 l1_3 x7_2).f2)) ∧ w'.cell? ⟨(ad836.add ((x7_2).toNat * 4)).block, (ad836.add ((x7_2).toNat * 4)).off + 3, none⟩ = some (.slice A836_3 ((rd_T28 l1_3 x7_2).f3).length c836_3)) (ds := []) #[false, false, false, false, false, false, false, false, false, false, false, false, false] (by kernel_rfl) rfl rfl ⟨(blk_cell BK834.out 0).trans rfl, (blk_cell BK834.out 1).trans rfl, (blk_cell BK834.out 2).trans rfl, (blk_cell BK834.out 3).trans rfl, ((HB.out.cell (World.block_lt_of_cell? w _ hw836_0)).trans hw836_0), ((HB.out.cell (World.block_lt_of_cell? w _ hw836_1)).trans hw836_1), ((HB.out.cell (World.block_lt_of_cell? w _ hw836_2)).trans hw836_2), ((HB.out.cell (World.block_lt_of_cell? w _ hw836_3)).trans hw836_3)⟩ (fun hHeld => ?_); refine with_tabW canopyref5_loose.tab6 canopyref5_loose.bits6 (fun HT_ HW_ => ?_)
          generalize wr.drew = w20 at BK834 HB HR836_3 hx836_0 hx836_1 hx836_2 hx836_3 hHeld ⊢
          refine pure_ (i := 0) (N := some 30) (v := ?_) (a' := ?_) #[true, false, false, false, false, false, false, false, false, false, false, false, false] rfl rfl (any_of HT_.out (by kernel_rfl)) (fun _ _ _ h => h) (Or.inl ⟨by rfl, ?_⟩) ?_ ?_
          rotate_left
          ·intro w'
           go_simp
           with_reducible rfl
          rotate_left
          ·simp only [Act.put, List.setIfInBounds_toArray, List.set_cons_zero, List.set_cons_succ, i64_w, i32_w]
           rfl
          refine pure_ (i := 1) (N := some 31) (v := ?_) (a' := ?_) #[true, true, false, false, false, false, false, false, false, false, false, false, false] rfl rfl (any_of HT_.out (by kernel_rfl)) (fun _ _ _ h => h) (Or.inl ⟨by rfl, ?_⟩) ?_ ?_
          rotate_left
          ·intro w'
           go_simp
           with_reducible rfl
          rotate_left
          ·simp only [Act.put, List.setIfInBounds_toArray, List.set_cons_zero, List.set_cons_succ, i64_w, i32_w]
           rfl
          refine pure_ (i := 3) (N := some 33) (v := ?_) (a' := ?_) #[true, true, false, true, false, false, false, false, false, false, false, false, false] rfl rfl (any_of HT_.out (by kernel_rfl)) (fun _ _ _ h => h) (Or.inl ⟨by rfl, ?_⟩) ?_ ?_
          rotate_left
          ·intro w'
           go_simp
           with_reducible rfl
          rotate_left
          ·simp only [Act.put, List.setIfInBounds_toArray, List.set_cons_zero, List.set_cons_succ, i64_w, i32_w]
           rfl
          refine pure_ (i := 6) (N := some 36) (v := ?_) (a' := ?_) #[true, true, false, true, false, false, true, false, false, false, false, false, false] rfl rfl (any_of HT_.out (by kernel_rfl)) (fun _ _ _ h => h) (Or.inl ⟨by rfl, ?_⟩) ?_ ?_
          rotate_left
          ·intro w'
           go_simp
           with_reducible rfl
          rotate_left
          ·simp only [Act.put, List.setIfInBounds_toArray, List.set_cons_zero, List.set_cons_succ, i64_w, i32_w]
           rfl
          refine pure_ (i := 7) (N := some 37) (v := ?_) (a' := ?_) #[true, true, false, true, false, false, true, true, false, false, false, false, false] rfl rfl (any_of HT_.out (by kernel_rfl)) (fun _ _ _ h => h) (Or.inl ⟨by rfl, ?_⟩) ?_ ?_
          rotate_left
          ·intro w'
           go_simp
           with_reducible rfl
          rotate_left
          ·simp only [Act.put, List.setIfInBounds_toArray, List.set_cons_zero, List.set_cons_succ, i64_w, i32_w]
           rfl
          refine pure_ (i := 8) (N := some 38) (v := undef) (a' := ?_) #[true, true, false, true, false, false, true, true, true, false, false, false, false] rfl rfl (any_of HT_.out (by kernel_rfl)) (fun _ _ _ h => h) (Or.inr ⟨by rfl, rfl⟩) ?_ ?_
          rotate_left
          ·simp only [Act.put, List.setIfInBounds_toArray, List.set_cons_zero, List.set_cons_succ, i64_w, i32_w]
           rfl
          refine pure_ (i := 9) (N := some 39) (v := undef) (a' := ?_) #[true, true, false, true, false, false, true, true, true, true, false, false, false] rfl rfl (any_of HT_.out (by kernel_rfl)) (fun _ _ _ h => h) (Or.inr ⟨by rfl, rfl⟩) ?_ ?_
          rotate_left
          ·simp only [Act.put, List.setIfInBounds_toArray, List.set_cons_zero, List.set_cons_succ, i64_w, i32_w]
           rfl
          refine pure_ (i := 10) (N := some 40) (v := undef) (a' := ?_) #[true, true, false, true, false, false, true, true, true, true, true, false, false] rfl rfl (any_of HT_.out (by kernel_rfl)) (fun _ _ _ h => h) (Or.inr ⟨by rfl, rfl⟩) ?_ ?_
          rotate_left
          ·simp only [Act.put, List.setIfInBounds_toArray, List.set_cons_zero, List.set_cons_succ, i64_w, i32_w]
           rfl
          refine pure_ (i := 11) (N := some 41) (v := ?_) (a' := ?_) #[true, true, false, true, false, false, true, true, true, true, true, true, false] rfl rfl (any_of HT_.out (by kernel_rfl)) (fun _ _ _ h => h) (Or.inl ⟨by rfl, ?_⟩) ?_ ?_
          rotate_left
          ·intro w'
           go_simp
           with_reducible rfl
          rotate_left
          ·simp only [Act.put, List.setIfInBounds_toArray, List.set_cons_zero, List.set_cons_succ, i64_w, i32_w]
           rfl
          refine take_ (i := 2) (N := some 32) (v := ?_) (a' := ?_) #[true, true, true, true, false, false, true, true, true, true, true, true, false] rfl rfl (take_ofW HT_.out HW_.out (by kernel_rfl)) (fun _ _ _ h => h) (Or.inl ⟨by rfl, ?_⟩) hHeld ?_ ?_
          rotate_left
          ·rintro w' ⟨s0, s1, s2, s3, s4, s5, s6, s7⟩
           go_simp
           with_reducible rfl
          rotate_left
          ·simp only [Act.put, List.setIfInBounds_toArray, List.set_cons_zero, List.set_cons_succ, i64_w, i32_w]
           rfl
          refine pure_ (i := 4) (N := some 34) (v := ?_) (a' := ?_) #[true, true, true, true, true, false, true, true, true, true, true, true, false] rfl rfl (any_of HT_.out (by kernel_rfl)) (fun _ _ _ h => h) (Or.inl ⟨by rfl, ?_⟩) ?_ ?_
          rotate_left
          ·intro w'
           go_simp
           with_reducible rfl
          rotate_left
          ·simp only [Act.put, List.setIfInBounds_toArray, List.set_cons_zero, List.set_cons_succ, i64_w, i32_w]
           rfl
          refine take_ (i := 5) (N := some 35) (v := ?_) (a' := ?_) #[true, true, true, true, true, true, true, true, true, true, true, true, false] rfl rfl (take_ofW HT_.out HW_.out (by kernel_rfl)) (fun _ _ _ h => h) (Or.inl ⟨by rfl, ?_⟩) hHeld ?_ ?_
          rotate_left
          ·rintro w' ⟨s0, s1, s2, s3, s4, s5, s6, s7⟩
           go_simp
           with_reducible rfl
          rotate_left
          ·simp only [Act.put, List.setIfInBounds_toArray, List.set_cons_zero, List.set_cons_succ, i64_w, i32_w]
           rfl
          refine one_ (i := 12) (N := some 42) #[true, true, true, true, true, true, true, true, true, true, true, true, true] rfl rfl (one_of HT_.out (by kernel_rfl)) (by decide) (fun K hK => ?_)
          refine goes_ Try.func35 (by kernel_rfl) rfl #[.slice A0 l0.length c0, .agg #[.int .i64 ((rd_T28 l1_3 x7_2).f0), .int .i64 ((rd_T28 l1_3 x7_2).f1), .int .i64 ((rd_T28 l1_3 x7_2).f2), .slice A836_3 ((rd_T28 l1_3 x7_2).f3).length c836_3], .bool true] (by rfl) rfl rfl (by (simp only [List.map_toArray, List.map_cons, List.map_nil]); rfl) ?_
          with_reducible refine (ih k2 (by have := HJ3.out; have := HK2.out; omega) _ _ l0 ((rd_T28 l1_3 x7_2).f0) ((rd_T28 l1_3 x7_2).f1) ((rd_T28 l1_3 x7_2).f2) _ _ ((rd_T28 l1_3 x7_2).f3) true true _ ?side1 ?side2 ?side3 ?side4 A17.out).mono ?_
          (case side1 => repeat (exact (Kd.C_below HR0.out HB.out)))
          (case side2 => exact HC0.out)
          (case side3 => repeat (exact (Kd.C_below HR836_3.out HB.out)))
          (case side4 => exact HC836_3.out)
          rintro e w21 ⟨rfl, hb⟩
          refine ⟨_, rfl, ?_⟩
          have n0_ := M0 (blk_below BK834.out hb)
          have n1_ := M0 (below_step HB.out hb)
          clear BK834 HB
          have BK834 := n0_
          have HB := n1_
          clear n0_ n1_
          (clear hb)
          (skip)
          (skip)
          (skip)
          refine hK.out _ _ ⟨(blk_cell BK834.out 0).trans rfl, (blk_cell BK834.out 1).trans rfl, (blk_cell BK834.out 2).trans rfl, (blk_cell BK834.out 3).trans rfl, ((HB.out.cell (World.block_lt_of_cell? w _ hw836_0)).trans hw836_0), ((HB.out.cell (World.block_lt_of_cell? w _ hw836_1)).trans hw836_1), ((HB.out.cell (World.block_lt_of_cell? w _ hw836_2)).trans hw836_2), ((HB.out.cell (World.block_lt_of_cell? w _ hw836_3)).trans hw836_3)⟩ (fun hHeld => ?_)
          clear hK K
          refine norm_ (a' := ?_) ?_ ?_
          rotate_left
          ·show Act.put _ (some 42) _ = _
           simp only [Act.put, List.setIfInBounds_toArray, List.set_cons_zero, List.set_cons_succ, i64_w, i32_w]
           rfl
          refine done_ (done_of HT_.out (by kernel_rfl)) ?_
          go_wp2
          go_ret
          exact ⟨by rfl, by with_reducible exact HB.out⟩
         ·replace c18 := Bool.eq_false_iff.mpr c18
          subst c18
          rw [if_neg (show ¬ (false = true) by decide)] at H
          have H' := M0 H
          clear H
          obtain ⟨_, _, _, _, _, _, _, _⟩ := cells4 BK834.out
          go_wp2
          have n0_ := M0 (blk_drew BK834.out)
          have n1_ := M0 (below_drew1 HB.out)
          clear BK834 HB
          have BK834 := n0_
          have HB := n1_
          clear n0_ n1_
          have p836 : 0 ≤ (x7_2 : Int) := of_decide_eq_true (by (with_reducible assumption))
          have q836 : x7_2 < (l1_3.length : Int) := of_decide_eq_true (by (with_reducible assumption))
          obtain ⟨ad836, A836_3, c836_3, e836, hx836_0, hx836_1, hx836_2, hx836_3, hl836_3, hi836_3⟩ := at_T28 HR1_3.out x7_2 p836 q836
          have hw836_3 := hx836_3
          have hw836_2 := hx836_2
          have hw836_1 := hx836_1
          have hw836_0 := hx836_0
          cases e836
          replace hx836_0 := (HB.out.cell (World.block_lt_of_cell? w _ hx836_0)).trans hx836_0
          replace hx836_1 := (HB.out.cell (World.block_lt_of_cell? w _ hx836_1)).trans hx836_1
          replace hx836_2 := (HB.out.cell (World.block_lt_of_cell? w _ hx836_2)).trans hx836_2
          replace hx836_3 := (HB.out.cell (World.block_lt_of_cell? w _ hx836_3)).trans hx836_3
          have HR836_3 := M0 hi836_3
          have HC836_3 := M0 hl836_3
          clear hi836_3 hl836_3
          replace p836 := eq_true p836
          replace q836 := eq_true q836
          refine start_ (n := 13) (S := fun w' => w'.cell? ⟨gb834, 0, none⟩ = some (.int .i64 a1_0) ∧ w'.cell? ⟨gb834, 1, none⟩ = some (.int .i64 a1_1) ∧ w'.cell? ⟨gb834, 2, none⟩ = some (.int .i64 a1_2) ∧ w'.cell? ⟨gb834, 3, none⟩ = some (.slice (some ad836) l1_3.length c1_3) ∧ w'.cell? (ad836.add ((x7_2).toNat * 4)) = some (.int .i64 ((rd_T28 l1_3 x7_2).f0)) ∧ w'.cell? ⟨(ad836.add ((x7_2).toNat * 4)).block, (ad836.add ((x7_2).toNat * 4)).off + 1, none⟩ = some (.int .i64 ((rd_T28 l1_3 x7_2).f1)) ∧ w'.cell? ⟨(ad836.add ((x7_2).toNat * 4)).block, (ad836.add ((x7_2).toNat * 4)).off + 2, none⟩ = some (.int .i64 ((rd_T28 l1_3 x7_2).f2)) ∧ w'.cell? ⟨(ad836.add ((x7_2).toNat * 4)).block, (ad836.add ((x7_2).toNat * 4)).off + 3, none⟩ = some (.slice A836_3 ((rd_T28 l1_3 x7_2).f3).length c836_3)) (ds := []) #[false, false, false, false, false, false, false, false, false, false, false, false, false] (by kernel_rfl) rfl rfl ⟨(blk_cell BK834.out 0).trans rfl, (blk_cell BK834.out 1).trans rfl, (blk_cell BK834.out 2).trans rfl, (blk_cell BK834.out 3).trans rfl, ((HB.out.cell (World.block_lt_of_cell? w _ hw836_0)).trans hw836_0), ((HB.out.cell (World.block_lt_of_cell? w _ hw836_1)).trans hw836_1), ((HB.out.cell (World.block_lt_of_cell? w _ hw836_2)).trans hw836_2), ((HB.out.cell (World.block_lt_of_cell? w _ hw836_3)).trans hw836_3)⟩ (fun hHeld => ?_); refine with_tabW canopyref5_loose.tab6 canopyref5_loose.bits6 (fun HT_ HW_ => ?_)
          generalize wr.drew = w23 at BK834 HB HR836_3 hx836_0 hx836_1 hx836_2 hx836_3 hHeld ⊢
          refine pure_ (i := 0) (N := some 30) (v := ?_) (a' := ?_) #[true, false, false, false, false, false, false, false, false, false, false, false, false] rfl rfl (any_of HT_.out (by kernel_rfl)) (fun _ _ _ h => h) (Or.inl ⟨by rfl, ?_⟩) ?_ ?_
          rotate_left
          ·intro w'
           go_simp
           with_reducible rfl
          rotate_left
          ·simp only [Act.put, List.setIfInBounds_toArray, List.set_cons_zero, List.set_cons_succ, i64_w, i32_w]
           rfl
          refine pure_ (i := 1) (N := some 31) (v := ?_) (a' := ?_) #[true, true, false, false, false, false, false, false, false, false, false, false, false] rfl rfl (any_of HT_.out (by kernel_rfl)) (fun _ _ _ h => h) (Or.inl ⟨by rfl, ?_⟩) ?_ ?_
          rotate_left
          ·intro w'
           go_simp
           with_reducible rfl
          rotate_left
          ·simp only [Act.put, List.setIfInBounds_toArray, List.set_cons_zero, List.set_cons_succ, i64_w, i32_w]
           rfl
          refine pure_ (i := 3) (N := some 33) (v := ?_) (a' := ?_) #[true, true, false, true, false, false, false, false, false, false, false, false, false] rfl rfl (any_of HT_.out (by kernel_rfl)) (fun _ _ _ h => h) (Or.inl ⟨by rfl, ?_⟩) ?_ ?_
          rotate_left
          ·intro w'
           go_simp
           with_reducible rfl
          rotate_left
          ·simp only [Act.put, List.setIfInBounds_toArray, List.set_cons_zero, List.set_cons_succ, i64_w, i32_w]
           rfl
          refine pure_ (i := 6) (N := some 36) (v := ?_) (a' := ?_) #[true, true, false, true, false, false, true, false, false, false, false, false, false] rfl rfl (any_of HT_.out (by kernel_rfl)) (fun _ _ _ h => h) (Or.inl ⟨by rfl, ?_⟩) ?_ ?_
          rotate_left
          ·intro w'
           go_simp
           with_reducible rfl
          rotate_left
          ·simp only [Act.put, List.setIfInBounds_toArray, List.set_cons_zero, List.set_cons_succ, i64_w, i32_w]
           rfl
          refine pure_ (i := 7) (N := some 37) (v := ?_) (a' := ?_) #[true, true, false, true, false, false, true, true, false, false, false, false, false] rfl rfl (any_of HT_.out (by kernel_rfl)) (fun _ _ _ h => h) (Or.inl ⟨by rfl, ?_⟩) ?_ ?_
          rotate_left
          ·intro w'
           go_simp
           with_reducible rfl
          rotate_left
          ·simp only [Act.put, List.setIfInBounds_toArray, List.set_cons_zero, List.set_cons_succ, i64_w, i32_w]
           rfl
          refine pure_ (i := 8) (N := some 38) (v := undef) (a' := ?_) #[true, true, false, true, false, false, true, true, true, false, false, false, false] rfl rfl (any_of HT_.out (by kernel_rfl)) (fun _ _ _ h => h) (Or.inr ⟨by rfl, rfl⟩) ?_ ?_
          rotate_left
          ·simp only [Act.put, List.setIfInBounds_toArray, List.set_cons_zero, List.set_cons_succ, i64_w, i32_w]
           rfl
          refine pure_ (i := 9) (N := some 39) (v := undef) (a' := ?_) #[true, true, false, true, false, false, true, true, true, true, false, false, false] rfl rfl (any_of HT_.out (by kernel_rfl)) (fun _ _ _ h => h) (Or.inr ⟨by rfl, rfl⟩) ?_ ?_
          rotate_left
          ·simp only [Act.put, List.setIfInBounds_toArray, List.set_cons_zero, List.set_cons_succ, i64_w, i32_w]
           rfl
          refine pure_ (i := 10) (N := some 40) (v := undef) (a' := ?_) #[true, true, false, true, false, false, true, true, true, true, true, false, false] rfl rfl (any_of HT_.out (by kernel_rfl)) (fun _ _ _ h => h) (Or.inr ⟨by rfl, rfl⟩) ?_ ?_
          rotate_left
          ·simp only [Act.put, List.setIfInBounds_toArray, List.set_cons_zero, List.set_cons_succ, i64_w, i32_w]
           rfl
          refine pure_ (i := 11) (N := some 41) (v := ?_) (a' := ?_) #[true, true, false, true, false, false, true, true, true, true, true, true, false] rfl rfl (any_of HT_.out (by kernel_rfl)) (fun _ _ _ h => h) (Or.inl ⟨by rfl, ?_⟩) ?_ ?_
          rotate_left
          ·intro w'
           go_simp
           with_reducible rfl
          rotate_left
          ·simp only [Act.put, List.setIfInBounds_toArray, List.set_cons_zero, List.set_cons_succ, i64_w, i32_w]
           rfl
          refine take_ (i := 2) (N := some 32) (v := ?_) (a' := ?_) #[true, true, true, true, false, false, true, true, true, true, true, true, false] rfl rfl (take_ofW HT_.out HW_.out (by kernel_rfl)) (fun _ _ _ h => h) (Or.inl ⟨by rfl, ?_⟩) hHeld ?_ ?_
          rotate_left
          ·rintro w' ⟨s0, s1, s2, s3, s4, s5, s6, s7⟩
           go_simp
           with_reducible rfl
          rotate_left
          ·simp only [Act.put, List.setIfInBounds_toArray, List.set_cons_zero, List.set_cons_succ, i64_w, i32_w]
           rfl
          refine pure_ (i := 4) (N := some 34) (v := ?_) (a' := ?_) #[true, true, true, true, true, false, true, true, true, true, true, true, false] rfl rfl (any_of HT_.out (by kernel_rfl)) (fun _ _ _ h => h) (Or.inl ⟨by rfl, ?_⟩) ?_ ?_
          rotate_left
          ·intro w'
           go_simp
           with_reducible rfl
          rotate_left
          ·simp only [Act.put, List.setIfInBounds_toArray, List.set_cons_zero, List.set_cons_succ, i64_w, i32_w]
           rfl
          refine take_ (i := 5) (N := some 35) (v := ?_) (a' := ?_) #[true, true, true, true, true, true, true, true, true, true, true, true, false] rfl rfl (take_ofW HT_.out HW_.out (by kernel_rfl)) (fun _ _ _ h => h) (Or.inl ⟨by rfl, ?_⟩) hHeld ?_ ?_
          rotate_left
          ·rintro w' ⟨s0, s1, s2, s3, s4, s5, s6, s7⟩
           go_simp
           with_reducible rfl
          rotate_left
          ·simp only [Act.put, List.setIfInBounds_toArray, List.set_cons_zero, List.set_cons_succ, i64_w, i32_w]
           rfl
          refine one_ (i := 12) (N := some 42) #[true, true, true, true, true, true, true, true, true, true, true, true, true] rfl rfl (one_of HT_.out (by kernel_rfl)) (by decide) (fun K hK => ?_)
          refine goes_ Try.func35 (by kernel_rfl) rfl #[.slice A0 l0.length c0, .agg #[.int .i64 ((rd_T28 l1_3 x7_2).f0), .int .i64 ((rd_T28 l1_3 x7_2).f1), .int .i64 ((rd_T28 l1_3 x7_2).f2), .slice A836_3 ((rd_T28 l1_3 x7_2).f3).length c836_3], .bool true] (by rfl) rfl rfl (by (simp only [List.map_toArray, List.map_cons, List.map_nil]); rfl) ?_
          with_reducible refine (ih k2 (by have := HJ3.out; have := HK2.out; omega) _ _ l0 ((rd_T28 l1_3 x7_2).f0) ((rd_T28 l1_3 x7_2).f1) ((rd_T28 l1_3 x7_2).f2) _ _ ((rd_T28 l1_3 x7_2).f3) true false _ ?side1 ?side2 ?side3 ?side4 A17.out).mono ?_
          (case side1 => repeat (exact (Kd.C_below HR0.out HB.out)))
          (case side2 => exact HC0.out)
          (case side3 => repeat (exact (Kd.C_below HR836_3.out HB.out)))
          (case side4 => exact HC836_3.out)
          rintro e w24 ⟨rfl, hb⟩
          refine ⟨_, rfl, ?_⟩
          have n0_ := M0 (blk_below BK834.out hb)
          have n1_ := M0 (below_step HB.out hb)
          clear BK834 HB
          have BK834 := n0_
          have HB := n1_
          clear n0_ n1_
          (clear hb)
          (skip)
          (skip)
          (skip)
          refine hK.out _ _ ⟨(blk_cell BK834.out 0).trans rfl, (blk_cell BK834.out 1).trans rfl, (blk_cell BK834.out 2).trans rfl, (blk_cell BK834.out 3).trans rfl, ((HB.out.cell (World.block_lt_of_cell? w _ hw836_0)).trans hw836_0), ((HB.out.cell (World.block_lt_of_cell? w _ hw836_1)).trans hw836_1), ((HB.out.cell (World.block_lt_of_cell? w _ hw836_2)).trans hw836_2), ((HB.out.cell (World.block_lt_of_cell? w _ hw836_3)).trans hw836_3)⟩ (fun hHeld => ?_)
          clear hK K
          refine norm_ (a' := ?_) ?_ ?_
          rotate_left
          ·show Act.put _ (some 42) _ = _
           simp only [Act.put, List.setIfInBounds_toArray, List.set_cons_zero, List.set_cons_succ, i64_w, i32_w]
           rfl
          refine done_ (done_of HT_.out (by kernel_rfl)) ?_
          go_wp2
          go_roundg k2
          case measure => have := HJ3.out; have := HK2.out; omega
          case rel => exact ⟨(wrap64 (x7_2 + 1)), (by rfl), H', ⟨by have := HJ3.out; have := HK2.out; omega⟩, ⟨by exact BK834.out⟩, ⟨by with_reducible exact HB.out⟩⟩
        ·replace c16 := Bool.eq_false_iff.mpr c16
         subst c16
         rw [if_neg (show ¬ (false = true) by decide)] at H
         replace H := Option.bind_eq_some_iff.mp H
         obtain ⟨t838, A250, H⟩ := H
         try dsimp only at H
         have A25 := M0 A250
         clear A250
         by_cases c26 : t838 = true
         ·subst c26
          rw [if_pos rfl] at H
          obtain rfl := Option.some.inj H
          obtain ⟨_, _, _, _, _, _, _, _⟩ := cells4 BK834.out
          go_wp2
          have n0_ := M0 (blk_drew BK834.out)
          have n1_ := M0 (below_drew1 HB.out)
          clear BK834 HB
          have BK834 := n0_
          have HB := n1_
          clear n0_ n1_
          have p836 : 0 ≤ (x7_2 : Int) := of_decide_eq_true (by (with_reducible assumption))
          have q836 : x7_2 < (l1_3.length : Int) := of_decide_eq_true (by (with_reducible assumption))
          obtain ⟨ad836, A836_3, c836_3, e836, hx836_0, hx836_1, hx836_2, hx836_3, hl836_3, hi836_3⟩ := at_T28 HR1_3.out x7_2 p836 q836
          have hw836_3 := hx836_3
          have hw836_2 := hx836_2
          have hw836_1 := hx836_1
          have hw836_0 := hx836_0
          cases e836
          replace hx836_0 := (HB.out.cell (World.block_lt_of_cell? w _ hx836_0)).trans hx836_0
          replace hx836_1 := (HB.out.cell (World.block_lt_of_cell? w _ hx836_1)).trans hx836_1
          replace hx836_2 := (HB.out.cell (World.block_lt_of_cell? w _ hx836_2)).trans hx836_2
          replace hx836_3 := (HB.out.cell (World.block_lt_of_cell? w _ hx836_3)).trans hx836_3
          have HR836_3 := M0 hi836_3
          have HC836_3 := M0 hl836_3
          clear hi836_3 hl836_3
          replace p836 := eq_true p836
          replace q836 := eq_true q836
          refine start_ (n := 13) (S := fun w' => w'.cell? ⟨gb834, 0, none⟩ = some (.int .i64 a1_0) ∧ w'.cell? ⟨gb834, 1, none⟩ = some (.int .i64 a1_1) ∧ w'.cell? ⟨gb834, 2, none⟩ = some (.int .i64 a1_2) ∧ w'.cell? ⟨gb834, 3, none⟩ = some (.slice (some ad836) l1_3.length c1_3) ∧ w'.cell? (ad836.add ((x7_2).toNat * 4)) = some (.int .i64 ((rd_T28 l1_3 x7_2).f0)) ∧ w'.cell? ⟨(ad836.add ((x7_2).toNat * 4)).block, (ad836.add ((x7_2).toNat * 4)).off + 1, none⟩ = some (.int .i64 ((rd_T28 l1_3 x7_2).f1)) ∧ w'.cell? ⟨(ad836.add ((x7_2).toNat * 4)).block, (ad836.add ((x7_2).toNat * 4)).off + 2, none⟩ = some (.int .i64 ((rd_T28 l1_3 x7_2).f2)) ∧ w'.cell? ⟨(ad836.add ((x7_2).toNat * 4)).block, (ad836.add ((x7_2).toNat * 4)).off + 3, none⟩ = some (.slice A836_3 ((rd_T28 l1_3 x7_2).f3).length c836_3)) (ds := []) #[false, false, false, false, false, false, false, false, false, false, false, false, false] (by kernel_rfl) rfl rfl ⟨(blk_cell BK834.out 0).trans rfl, (blk_cell BK834.out 1).trans rfl, (blk_cell BK834.out 2).trans rfl, (blk_cell BK834.out 3).trans rfl, ((HB.out.cell (World.block_lt_of_cell? w _ hw836_0)).trans hw836_0), ((HB.out.cell (World.block_lt_of_cell? w _ hw836_1)).trans hw836_1), ((HB.out.cell (World.block_lt_of_cell? w _ hw836_2)).trans hw836_2), ((HB.out.cell (World.block_lt_of_cell? w _ hw836_3)).trans hw836_3)⟩ (fun hHeld => ?_); refine with_tabW canopyref5_loose.tab6 canopyref5_loose.bits6 (fun HT_ HW_ => ?_)
          generalize wr.drew = w28 at BK834 HB HR836_3 hx836_0 hx836_1 hx836_2 hx836_3 hHeld ⊢
          refine pure_ (i := 0) (N := some 30) (v := ?_) (a' := ?_) #[true, false, false, false, false, false, false, false, false, false, false, false, false] rfl rfl (any_of HT_.out (by kernel_rfl)) (fun _ _ _ h => h) (Or.inl ⟨by rfl, ?_⟩) ?_ ?_
          rotate_left
          ·intro w'
           go_simp
           with_reducible rfl
          rotate_left
          ·simp only [Act.put, List.setIfInBounds_toArray, List.set_cons_zero, List.set_cons_succ, i64_w, i32_w]
           rfl
          refine pure_ (i := 1) (N := some 31) (v := ?_) (a' := ?_) #[true, true, false, false, false, false, false, false, false, false, false, false, false] rfl rfl (any_of HT_.out (by kernel_rfl)) (fun _ _ _ h => h) (Or.inl ⟨by rfl, ?_⟩) ?_ ?_
          rotate_left
          ·intro w'
           go_simp
           with_reducible rfl
          rotate_left
          ·simp only [Act.put, List.setIfInBounds_toArray, List.set_cons_zero, List.set_cons_succ, i64_w, i32_w]
           rfl
          refine pure_ (i := 3) (N := some 33) (v := ?_) (a' := ?_) #[true, true, false, true, false, false, false, false, false, false, false, false, false] rfl rfl (any_of HT_.out (by kernel_rfl)) (fun _ _ _ h => h) (Or.inl ⟨by rfl, ?_⟩) ?_ ?_
          rotate_left
          ·intro w'
           go_simp
           with_reducible rfl
          rotate_left
          ·simp only [Act.put, List.setIfInBounds_toArray, List.set_cons_zero, List.set_cons_succ, i64_w, i32_w]
           rfl
          refine pure_ (i := 6) (N := some 36) (v := ?_) (a' := ?_) #[true, true, false, true, false, false, true, false, false, false, false, false, false] rfl rfl (any_of HT_.out (by kernel_rfl)) (fun _ _ _ h => h) (Or.inl ⟨by rfl, ?_⟩) ?_ ?_
          rotate_left
          ·intro w'
           go_simp
           with_reducible rfl
          rotate_left
          ·simp only [Act.put, List.setIfInBounds_toArray, List.set_cons_zero, List.set_cons_succ, i64_w, i32_w]
           rfl
          refine pure_ (i := 7) (N := some 37) (v := ?_) (a' := ?_) #[true, true, false, true, false, false, true, true, false, false, false, false, false] rfl rfl (any_of HT_.out (by kernel_rfl)) (fun _ _ _ h => h) (Or.inl ⟨by rfl, ?_⟩) ?_ ?_
          rotate_left
          ·intro w'
           go_simp
           with_reducible rfl
          rotate_left
          ·simp only [Act.put, List.setIfInBounds_toArray, List.set_cons_zero, List.set_cons_succ, i64_w, i32_w]
           rfl
          refine pure_ (i := 8) (N := some 38) (v := ?_) (a' := ?_) #[true, true, false, true, false, false, true, true, true, false, false, false, false] rfl rfl (any_of HT_.out (by kernel_rfl)) (fun _ _ _ h => h) (Or.inl ⟨by rfl, ?_⟩) ?_ ?_
          rotate_left
          ·intro w'
           go_simp
           with_reducible rfl
          rotate_left
          ·simp only [Act.put, List.setIfInBounds_toArray, List.set_cons_zero, List.set_cons_succ, i64_w, i32_w]
           rfl
          refine take_ (i := 2) (N := some 32) (v := ?_) (a' := ?_) #[true, true, true, true, false, false, true, true, true, false, false, false, false] rfl rfl (take_ofW HT_.out HW_.out (by kernel_rfl)) (fun _ _ _ h => h) (Or.inl ⟨by rfl, ?_⟩) hHeld ?_ ?_
          rotate_left
          ·rintro w' ⟨s0, s1, s2, s3, s4, s5, s6, s7⟩
           go_simp
           with_reducible rfl
          rotate_left
          ·simp only [Act.put, List.setIfInBounds_toArray, List.set_cons_zero, List.set_cons_succ, i64_w, i32_w]
           rfl
          refine pure_ (i := 4) (N := some 34) (v := ?_) (a' := ?_) #[true, true, true, true, true, false, true, true, true, false, false, false, false] rfl rfl (any_of HT_.out (by kernel_rfl)) (fun _ _ _ h => h) (Or.inl ⟨by rfl, ?_⟩) ?_ ?_
          rotate_left
          ·intro w'
           go_simp
           with_reducible rfl
          rotate_left
          ·simp only [Act.put, List.setIfInBounds_toArray, List.set_cons_zero, List.set_cons_succ, i64_w, i32_w]
           rfl
          refine take_ (i := 5) (N := some 35) (v := ?_) (a' := ?_) #[true, true, true, true, true, true, true, true, true, false, false, false, false] rfl rfl (take_ofW HT_.out HW_.out (by kernel_rfl)) (fun _ _ _ h => h) (Or.inl ⟨by rfl, ?_⟩) hHeld ?_ ?_
          rotate_left
          ·rintro w' ⟨s0, s1, s2, s3, s4, s5, s6, s7⟩
           go_simp
           with_reducible rfl
          rotate_left
          ·simp only [Act.put, List.setIfInBounds_toArray, List.set_cons_zero, List.set_cons_succ, i64_w, i32_w]
           rfl
          refine take_ (i := 9) (N := some 39) (v := ?_) (a' := ?_) #[true, true, true, true, true, true, true, true, true, true, false, false, false] rfl rfl (take_ofW HT_.out HW_.out (by kernel_rfl)) (fun _ _ _ h => h) (Or.inl ⟨by rfl, ?_⟩) hHeld ?_ ?_
          rotate_left
          ·rintro w' ⟨s0, s1, s2, s3, s4, s5, s6, s7⟩
           go_simp
           with_reducible rfl
          rotate_left
          ·simp only [Act.put, List.setIfInBounds_toArray, List.set_cons_zero, List.set_cons_succ, i64_w, i32_w]
           rfl
          refine pure_ (i := 10) (N := some 40) (v := ?_) (a' := ?_) #[true, true, true, true, true, true, true, true, true, true, true, false, false] rfl rfl (any_of HT_.out (by kernel_rfl)) (fun _ _ _ h => h) (Or.inl ⟨by rfl, ?_⟩) ?_ ?_
          rotate_left
          ·intro w'
           go_simp
           with_reducible rfl
          rotate_left
          ·simp only [Act.put, List.setIfInBounds_toArray, List.set_cons_zero, List.set_cons_succ, i64_w, i32_w]
           rfl
          refine pure_ (i := 11) (N := some 41) (v := ?_) (a' := ?_) #[true, true, true, true, true, true, true, true, true, true, true, true, false] rfl rfl (any_of HT_.out (by kernel_rfl)) (fun _ _ _ h => h) (Or.inl ⟨by rfl, ?_⟩) ?_ ?_
          rotate_left
          ·intro w'
           go_simp
           with_reducible rfl
          rotate_left
          ·simp only [Act.put, List.setIfInBounds_toArray, List.set_cons_zero, List.set_cons_succ, i64_w, i32_w]
           rfl
          refine one_ (i := 12) (N := some 42) #[true, true, true, true, true, true, true, true, true, true, true, true, true] rfl rfl (one_of HT_.out (by kernel_rfl)) (by decide) (fun K hK => ?_)
          refine goes_ Try.func35 (by kernel_rfl) rfl #[.slice A0 l0.length c0, .agg #[.int .i64 ((rd_T28 l1_3 x7_2).f0), .int .i64 ((rd_T28 l1_3 x7_2).f1), .int .i64 ((rd_T28 l1_3 x7_2).f2), .slice A836_3 ((rd_T28 l1_3 x7_2).f3).length c836_3], .bool (a1_0 == 4)] (by rfl) rfl rfl (by (simp only [List.map_toArray, List.map_cons, List.map_nil]); rfl) ?_
          with_reducible refine (ih k2 (by have := HJ3.out; have := HK2.out; omega) _ _ l0 ((rd_T28 l1_3 x7_2).f0) ((rd_T28 l1_3 x7_2).f1) ((rd_T28 l1_3 x7_2).f2) _ _ ((rd_T28 l1_3 x7_2).f3) (a1_0 == 4) true _ ?side1 ?side2 ?side3 ?side4 A25.out).mono ?_
          (case side1 => repeat (exact (Kd.C_below HR0.out HB.out)))
          (case side2 => exact HC0.out)
          (case side3 => repeat (exact (Kd.C_below HR836_3.out HB.out)))
          (case side4 => exact HC836_3.out)
          rintro e w29 ⟨rfl, hb⟩
          refine ⟨_, rfl, ?_⟩
          have n0_ := M0 (blk_below BK834.out hb)
          have n1_ := M0 (below_step HB.out hb)
          clear BK834 HB
          have BK834 := n0_
          have HB := n1_
          clear n0_ n1_
          (clear hb)
          (skip)
          (skip)
          (skip)
          refine hK.out _ _ ⟨(blk_cell BK834.out 0).trans rfl, (blk_cell BK834.out 1).trans rfl, (blk_cell BK834.out 2).trans rfl, (blk_cell BK834.out 3).trans rfl, ((HB.out.cell (World.block_lt_of_cell? w _ hw836_0)).trans hw836_0), ((HB.out.cell (World.block_lt_of_cell? w _ hw836_1)).trans hw836_1), ((HB.out.cell (World.block_lt_of_cell? w _ hw836_2)).trans hw836_2), ((HB.out.cell (World.block_lt_of_cell? w _ hw836_3)).trans hw836_3)⟩ (fun hHeld => ?_)
          clear hK K
          refine norm_ (a' := ?_) ?_ ?_
          rotate_left
          ·show Act.put _ (some 42) _ = _
           simp only [Act.put, List.setIfInBounds_toArray, List.set_cons_zero, List.set_cons_succ, i64_w, i32_w]
           rfl
          refine done_ (done_of HT_.out (by kernel_rfl)) ?_
          go_wp2
          go_ret
          exact ⟨by rfl, by with_reducible exact HB.out⟩
         ·replace c26 := Bool.eq_false_iff.mpr c26
          subst c26
          rw [if_neg (show ¬ (false = true) by decide)] at H
          have H' := M0 H
          clear H
          obtain ⟨_, _, _, _, _, _, _, _⟩ := cells4 BK834.out
          go_wp2
          have n0_ := M0 (blk_drew BK834.out)
          have n1_ := M0 (below_drew1 HB.out)
          clear BK834 HB
          have BK834 := n0_
          have HB := n1_
          clear n0_ n1_
          have p836 : 0 ≤ (x7_2 : Int) := of_decide_eq_true (by (with_reducible assumption))
          have q836 : x7_2 < (l1_3.length : Int) := of_decide_eq_true (by (with_reducible assumption))
          obtain ⟨ad836, A836_3, c836_3, e836, hx836_0, hx836_1, hx836_2, hx836_3, hl836_3, hi836_3⟩ := at_T28 HR1_3.out x7_2 p836 q836
          have hw836_3 := hx836_3
          have hw836_2 := hx836_2
          have hw836_1 := hx836_1
          have hw836_0 := hx836_0
          cases e836
          replace hx836_0 := (HB.out.cell (World.block_lt_of_cell? w _ hx836_0)).trans hx836_0
          replace hx836_1 := (HB.out.cell (World.block_lt_of_cell? w _ hx836_1)).trans hx836_1
          replace hx836_2 := (HB.out.cell (World.block_lt_of_cell? w _ hx836_2)).trans hx836_2
          replace hx836_3 := (HB.out.cell (World.block_lt_of_cell? w _ hx836_3)).trans hx836_3
          have HR836_3 := M0 hi836_3
          have HC836_3 := M0 hl836_3
          clear hi836_3 hl836_3
          replace p836 := eq_true p836
          replace q836 := eq_true q836
          refine start_ (n := 13) (S := fun w' => w'.cell? ⟨gb834, 0, none⟩ = some (.int .i64 a1_0) ∧ w'.cell? ⟨gb834, 1, none⟩ = some (.int .i64 a1_1) ∧ w'.cell? ⟨gb834, 2, none⟩ = some (.int .i64 a1_2) ∧ w'.cell? ⟨gb834, 3, none⟩ = some (.slice (some ad836) l1_3.length c1_3) ∧ w'.cell? (ad836.add ((x7_2).toNat * 4)) = some (.int .i64 ((rd_T28 l1_3 x7_2).f0)) ∧ w'.cell? ⟨(ad836.add ((x7_2).toNat * 4)).block, (ad836.add ((x7_2).toNat * 4)).off + 1, none⟩ = some (.int .i64 ((rd_T28 l1_3 x7_2).f1)) ∧ w'.cell? ⟨(ad836.add ((x7_2).toNat * 4)).block, (ad836.add ((x7_2).toNat * 4)).off + 2, none⟩ = some (.int .i64 ((rd_T28 l1_3 x7_2).f2)) ∧ w'.cell? ⟨(ad836.add ((x7_2).toNat * 4)).block, (ad836.add ((x7_2).toNat * 4)).off + 3, none⟩ = some (.slice A836_3 ((rd_T28 l1_3 x7_2).f3).length c836_3)) (ds := []) #[false, false, false, false, false, false, false, false, false, false, false, false, false] (by kernel_rfl) rfl rfl ⟨(blk_cell BK834.out 0).trans rfl, (blk_cell BK834.out 1).trans rfl, (blk_cell BK834.out 2).trans rfl, (blk_cell BK834.out 3).trans rfl, ((HB.out.cell (World.block_lt_of_cell? w _ hw836_0)).trans hw836_0), ((HB.out.cell (World.block_lt_of_cell? w _ hw836_1)).trans hw836_1), ((HB.out.cell (World.block_lt_of_cell? w _ hw836_2)).trans hw836_2), ((HB.out.cell (World.block_lt_of_cell? w _ hw836_3)).trans hw836_3)⟩ (fun hHeld => ?_); refine with_tabW canopyref5_loose.tab6 canopyref5_loose.bits6 (fun HT_ HW_ => ?_)
          generalize wr.drew = w31 at BK834 HB HR836_3 hx836_0 hx836_1 hx836_2 hx836_3 hHeld ⊢
          refine pure_ (i := 0) (N := some 30) (v := ?_) (a' := ?_) #[true, false, false, false, false, false, false, false, false, false, false, false, false] rfl rfl (any_of HT_.out (by kernel_rfl)) (fun _ _ _ h => h) (Or.inl ⟨by rfl, ?_⟩) ?_ ?_
          rotate_left
          ·intro w'
           go_simp
           with_reducible rfl
          rotate_left
          ·simp only [Act.put, List.setIfInBounds_toArray, List.set_cons_zero, List.set_cons_succ, i64_w, i32_w]
           rfl
          refine pure_ (i := 1) (N := some 31) (v := ?_) (a' := ?_) #[true, true, false, false, false, false, false, false, false, false, false, false, false] rfl rfl (any_of HT_.out (by kernel_rfl)) (fun _ _ _ h => h) (Or.inl ⟨by rfl, ?_⟩) ?_ ?_
          rotate_left
          ·intro w'
           go_simp
           with_reducible rfl
          rotate_left
          ·simp only [Act.put, List.setIfInBounds_toArray, List.set_cons_zero, List.set_cons_succ, i64_w, i32_w]
           rfl
          refine pure_ (i := 3) (N := some 33) (v := ?_) (a' := ?_) #[true, true, false, true, false, false, false, false, false, false, false, false, false] rfl rfl (any_of HT_.out (by kernel_rfl)) (fun _ _ _ h => h) (Or.inl ⟨by rfl, ?_⟩) ?_ ?_
          rotate_left
          ·intro w'
           go_simp
           with_reducible rfl
          rotate_left
          ·simp only [Act.put, List.setIfInBounds_toArray, List.set_cons_zero, List.set_cons_succ, i64_w, i32_w]
           rfl
          refine pure_ (i := 6) (N := some 36) (v := ?_) (a' := ?_) #[true, true, false, true, false, false, true, false, false, false, false, false, false] rfl rfl (any_of HT_.out (by kernel_rfl)) (fun _ _ _ h => h) (Or.inl ⟨by rfl, ?_⟩) ?_ ?_
          rotate_left
          ·intro w'
           go_simp
           with_reducible rfl
          rotate_left
          ·simp only [Act.put, List.setIfInBounds_toArray, List.set_cons_zero, List.set_cons_succ, i64_w, i32_w]
           rfl
          refine pure_ (i := 7) (N := some 37) (v := ?_) (a' := ?_) #[true, true, false, true, false, false, true, true, false, false, false, false, false] rfl rfl (any_of HT_.out (by kernel_rfl)) (fun _ _ _ h => h) (Or.inl ⟨by rfl, ?_⟩) ?_ ?_
          rotate_left
          ·intro w'
           go_simp
           with_reducible rfl
          rotate_left
          ·simp only [Act.put, List.setIfInBounds_toArray, List.set_cons_zero, List.set_cons_succ, i64_w, i32_w]
           rfl
          refine pure_ (i := 8) (N := some 38) (v := ?_) (a' := ?_) #[true, true, false, true, false, false, true, true, true, false, false, false, false] rfl rfl (any_of HT_.out (by kernel_rfl)) (fun _ _ _ h => h) (Or.inl ⟨by rfl, ?_⟩) ?_ ?_
          rotate_left
          ·intro w'
           go_simp
           with_reducible rfl
          rotate_left
          ·simp only [Act.put, List.setIfInBounds_toArray, List.set_cons_zero, List.set_cons_succ, i64_w, i32_w]
           rfl
          refine take_ (i := 2) (N := some 32) (v := ?_) (a' := ?_) #[true, true, true, true, false, false, true, true, true, false, false, false, false] rfl rfl (take_ofW HT_.out HW_.out (by kernel_rfl)) (fun _ _ _ h => h) (Or.inl ⟨by rfl, ?_⟩) hHeld ?_ ?_
          rotate_left
          ·rintro w' ⟨s0, s1, s2, s3, s4, s5, s6, s7⟩
           go_simp
           with_reducible rfl
          rotate_left
          ·simp only [Act.put, List.setIfInBounds_toArray, List.set_cons_zero, List.set_cons_succ, i64_w, i32_w]
           rfl
          refine pure_ (i := 4) (N := some 34) (v := ?_) (a' := ?_) #[true, true, true, true, true, false, true, true, true, false, false, false, false] rfl rfl (any_of HT_.out (by kernel_rfl)) (fun _ _ _ h => h) (Or.inl ⟨by rfl, ?_⟩) ?_ ?_
          rotate_left
          ·intro w'
           go_simp
           with_reducible rfl
          rotate_left
          ·simp only [Act.put, List.setIfInBounds_toArray, List.set_cons_zero, List.set_cons_succ, i64_w, i32_w]
           rfl
          refine take_ (i := 5) (N := some 35) (v := ?_) (a' := ?_) #[true, true, true, true, true, true, true, true, true, false, false, false, false] rfl rfl (take_ofW HT_.out HW_.out (by kernel_rfl)) (fun _ _ _ h => h) (Or.inl ⟨by rfl, ?_⟩) hHeld ?_ ?_
          rotate_left
          ·rintro w' ⟨s0, s1, s2, s3, s4, s5, s6, s7⟩
           go_simp
           with_reducible rfl
          rotate_left
          ·simp only [Act.put, List.setIfInBounds_toArray, List.set_cons_zero, List.set_cons_succ, i64_w, i32_w]
           rfl
          refine take_ (i := 9) (N := some 39) (v := ?_) (a' := ?_) #[true, true, true, true, true, true, true, true, true, true, false, false, false] rfl rfl (take_ofW HT_.out HW_.out (by kernel_rfl)) (fun _ _ _ h => h) (Or.inl ⟨by rfl, ?_⟩) hHeld ?_ ?_
          rotate_left
          ·rintro w' ⟨s0, s1, s2, s3, s4, s5, s6, s7⟩
           go_simp
           with_reducible rfl
          rotate_left
          ·simp only [Act.put, List.setIfInBounds_toArray, List.set_cons_zero, List.set_cons_succ, i64_w, i32_w]
           rfl
          refine pure_ (i := 10) (N := some 40) (v := ?_) (a' := ?_) #[true, true, true, true, true, true, true, true, true, true, true, false, false] rfl rfl (any_of HT_.out (by kernel_rfl)) (fun _ _ _ h => h) (Or.inl ⟨by rfl, ?_⟩) ?_ ?_
          rotate_left
          ·intro w'
           go_simp
           with_reducible rfl
          rotate_left
          ·simp only [Act.put, List.setIfInBounds_toArray, List.set_cons_zero, List.set_cons_succ, i64_w, i32_w]
           rfl
          refine pure_ (i := 11) (N := some 41) (v := ?_) (a' := ?_) #[true, true, true, true, true, true, true, true, true, true, true, true, false] rfl rfl (any_of HT_.out (by kernel_rfl)) (fun _ _ _ h => h) (Or.inl ⟨by rfl, ?_⟩) ?_ ?_
          rotate_left
          ·intro w'
           go_simp
           with_reducible rfl
          rotate_left
          ·simp only [Act.put, List.setIfInBounds_toArray, List.set_cons_zero, List.set_cons_succ, i64_w, i32_w]
           rfl
          refine one_ (i := 12) (N := some 42) #[true, true, true, true, true, true, true, true, true, true, true, true, true] rfl rfl (one_of HT_.out (by kernel_rfl)) (by decide) (fun K hK => ?_)
          refine goes_ Try.func35 (by kernel_rfl) rfl #[.slice A0 l0.length c0, .agg #[.int .i64 ((rd_T28 l1_3 x7_2).f0), .int .i64 ((rd_T28 l1_3 x7_2).f1), .int .i64 ((rd_T28 l1_3 x7_2).f2), .slice A836_3 ((rd_T28 l1_3 x7_2).f3).length c836_3], .bool (a1_0 == 4)] (by rfl) rfl rfl (by (simp only [List.map_toArray, List.map_cons, List.map_nil]); rfl) ?_
          with_reducible refine (ih k2 (by have := HJ3.out; have := HK2.out; omega) _ _ l0 ((rd_T28 l1_3 x7_2).f0) ((rd_T28 l1_3 x7_2).f1) ((rd_T28 l1_3 x7_2).f2) _ _ ((rd_T28 l1_3 x7_2).f3) (a1_0 == 4) false _ ?side1 ?side2 ?side3 ?side4 A25.out).mono ?_
          (case side1 => repeat (exact (Kd.C_below HR0.out HB.out)))
          (case side2 => exact HC0.out)
          (case side3 => repeat (exact (Kd.C_below HR836_3.out HB.out)))
          (case side4 => exact HC836_3.out)
          rintro e w32 ⟨rfl, hb⟩
          refine ⟨_, rfl, ?_⟩
          have n0_ := M0 (blk_below BK834.out hb)
          have n1_ := M0 (below_step HB.out hb)
          clear BK834 HB
          have BK834 := n0_
          have HB := n1_
          clear n0_ n1_
          (clear hb)
          (skip)
          (skip)
          (skip)
          refine hK.out _ _ ⟨(blk_cell BK834.out 0).trans rfl, (blk_cell BK834.out 1).trans rfl, (blk_cell BK834.out 2).trans rfl, (blk_cell BK834.out 3).trans rfl, ((HB.out.cell (World.block_lt_of_cell? w _ hw836_0)).trans hw836_0), ((HB.out.cell (World.block_lt_of_cell? w _ hw836_1)).trans hw836_1), ((HB.out.cell (World.block_lt_of_cell? w _ hw836_2)).trans hw836_2), ((HB.out.cell (World.block_lt_of_cell? w _ hw836_3)).trans hw836_3)⟩ (fun hHeld => ?_)
          clear hK K
          refine norm_ (a' := ?_) ?_ ?_
          rotate_left
          ·show Act.put _ (some 42) _ = _
           simp only [Act.put, List.setIfInBounds_toArray, List.set_cons_zero, List.set_cons_succ, i64_w, i32_w]
           rfl
          refine done_ (done_of HT_.out (by kernel_rfl)) ?_
          go_wp2
          go_roundg k2
          case measure => have := HJ3.out; have := HK2.out; omega
          case rel => exact ⟨(wrap64 (x7_2 + 1)), (by rfl), H', ⟨by have := HJ3.out; have := HK2.out; omega⟩, ⟨by exact BK834.out⟩, ⟨by with_reducible exact HB.out⟩⟩
       ·rw [if_neg c15] at H
        exact absurd H (by simp)
      ·rw [if_neg c14] at H
       have c14b0 := decide_eq_false c14
       clear c14
       obtain rfl := Option.some.inj H
       obtain ⟨_, _, _, _, _, _, _, _⟩ := cells4 BK834.out
       go_wp2
       go_ret
       exact ⟨by rfl, by with_reducible exact HB.out⟩

end Go.Proofs.Ytodbnnfiadcbaaa.P
namespace Go.Proofs.YtodbnnfiadcbaaaL
open Go.RowKit Go.Proofs.Ytodbnnfiadcbaaa.P Go.Proofs.YtodbnnfiadcbaaaW.PrintWords Go.Proofs.YtodbnnfiadcbaaaW.PrintLast Go.Proofs.YtodbnnfiadcbaaaW.PrintMore
set_option linter.unusedSimpArgs false
set_option linter.unusedVariables false
mutual
def tdeep : S28 → Nat
 | ⟨_, _, _, l⟩ => tdeepL l + 1
def tdeepL : List S28 → Nat
 | [] => 0
 | x :: xs => max (tdeep x) (tdeepL xs)
end
mutual
def tsize : S28 → Nat
 | ⟨_, _, _, l⟩ => tsizeL l + 1
def tsizeL : List S28 → Nat
 | [] => 0
 | x :: xs => tsize x + tsizeL xs
end
theorem tdeep_eq (e : S28) : tdeep e = tdeepL e.f3 + 1 := by cases e; rw [tdeep]
theorem tsize_eq (e : S28) : tsize e = tsizeL e.f3 + 1 := by cases e; rw [tsize]
theorem tsize_mem : ∀ {l : List S28} {x : S28}, x ∈ l → tsize x ≤ tsizeL l
 | y :: ys, x, h => by
  rw [tsizeL]
  rcases List.mem_cons.mp h with rfl | h
  ·omega
  ·have := tsize_mem h; omega
theorem len_tsizeL : ∀ l : List S28, l.length ≤ tsizeL l
 | [] => by simp
 | x :: xs => by
  have := len_tsizeL xs
  rw [tsizeL, tsize_eq, List.length_cons]
  omega
mutual
theorem tdeep_le : ∀ e : S28, tdeep e ≤ tsize e
 | ⟨_, _, _, l⟩ => by
  rw [tdeep, tsize]
  have := tdeepL_le l
  omega
theorem tdeepL_le : ∀ l : List S28, tdeepL l ≤ tsizeL l
 | [] => by simp [tdeepL]
 | x :: xs => by
  rw [tdeepL, tsizeL]
  have h1 := tdeep_le x
  have h2 := tdeepL_le xs
  omega
end
theorem rd_drop (l : List S28) (i : Nat) (h : i < l.length) : l.drop i = rd_T28 l (i : Int) :: l.drop (i + 1) := by
 rw [List.drop_eq_getElem_cons h]
 congr 1
 unfold rd_T28
 rw [Int.toNat_natCast, List.getD_eq_getElem?_getD, List.getElem?_eq_getElem h]
 rfl
theorem rd_in (l : List S28) (i : Nat) (h : i < l.length) : rd_T28 l (i : Int) ∈ l := by
 unfold rd_T28
 rw [Int.toNat_natCast, List.getD_eq_getElem?_getD, List.getElem?_eq_getElem h]
 exact List.getElem_mem h
theorem wrap_suc (i n : Nat) (h : i < n) (hn : n ≤ 1000000000) : wrap64 ((i : Int) + 1) = ((i + 1 : Nat) : Int) := by unfold wrap64; omega
theorem deep_ev : ∀ (n : Nat) (e : S28), tsize e ≤ n → n ≤ 1000000000 → Ev (fun k => canopyref5_deep.f k e.f0 e.f1 e.f2 e.f3) (tdeep e : Int)
 | 0, e, h, _ => by rw [tsize_eq] at h; omega
 | n + 1, e, h, hn => by
  have hs := tsize_eq e
  have hl := len_tsizeL e.f3
  have loop : ∀ (d i m : Nat), i + d = e.f3.length → m ≤ 1000000000 → Ev (fun k => canopyref5_deep.l0 k (m : Int) (i : Int) e.f0 e.f1 e.f2 e.f3) ((max m (tdeepL (e.f3.drop i)) + 1 : Nat) : Int) := by
   intro d
   induction d with
   | zero =>
    intro i m hi hm
    refine Ev.step (fun k => rfl) ?_
    refine Ev.congr (f := fun _ => some ((max m (tdeepL (e.f3.drop i)) + 1 : Nat) : Int)) (fun k => ?_) (Ev.now _)
    rw [canopyref5_deep.l0, if_neg (by omega), List.drop_eq_nil_of_le (by omega), tdeepL, Nat.max_zero]
    congr 1
    unfold wrap64
    omega
   | succ d ih =>
    intro i m hi hm
    have hlt : i < e.f3.length := by omega
    have hx := tsize_mem (rd_in e.f3 i hlt)
    have hd := tdeep_le (rd_T28 e.f3 (i : Int))
    refine Ev.step (fun k => rfl) ?_
    refine Ev.congr (f := fun k => (canopyref5_deep.f k (rd_T28 e.f3 (i : Int)).f0 (rd_T28 e.f3 (i : Int)).f1 (rd_T28 e.f3 (i : Int)).f2 (rd_T28 e.f3 (i : Int)).f3).bind fun t => canopyref5_deep.l0 k (mx (m : Int) t) (wrap64 ((i : Int) + 1)) e.f0 e.f1 e.f2 e.f3) (fun k => by rw [canopyref5_deep.l0, if_pos (by omega), if_pos (by omega)]) ?_
    refine Ev.bind (deep_ev n _ (by omega) (by omega)) ?_
    rw [wrap_suc i e.f3.length hlt (by omega)]
    have hm2 : mx (m : Int) (tdeep (rd_T28 e.f3 (i : Int)) : Int) = ((max m (tdeep (rd_T28 e.f3 (i : Int))) : Nat) : Int) := by unfold mx; split <;> omega
    rw [hm2, rd_drop _ _ hlt, tdeepL]
    have := ih (i + 1) (max m (tdeep (rd_T28 e.f3 (i : Int)))) (by omega) (by omega)
    rwa [Nat.max_assoc] at this
  refine Ev.step (fun k => rfl) ?_
  have := loop e.f3.length 0 0 (by omega) (by omega)
  rw [Nat.zero_max, List.drop_zero, ← tdeep_eq] at this
  exact this
theorem size_ev : ∀ (n : Nat) (e : S28), tsize e ≤ n → n ≤ 1000000000 → Ev (fun k => canopyref5_size.f k e.f0 e.f1 e.f2 e.f3) (tsize e : Int)
 | 0, e, h, _ => by rw [tsize_eq] at h; omega
 | n + 1, e, h, hn => by
  have hs := tsize_eq e
  have hl := len_tsizeL e.f3
  have loop : ∀ (d i m : Nat), i + d = e.f3.length → m + tsizeL (e.f3.drop i) ≤ 1000000000 → Ev (fun k => canopyref5_size.l0 k (m : Int) (i : Int) e.f0 e.f1 e.f2 e.f3) ((m + tsizeL (e.f3.drop i) : Nat) : Int) := by
   intro d
   induction d with
   | zero =>
    intro i m hi hm
    refine Ev.step (fun k => rfl) ?_
    refine Ev.congr (f := fun _ => some ((m + tsizeL (e.f3.drop i) : Nat) : Int)) (fun k => ?_) (Ev.now _)
    rw [canopyref5_size.l0, if_neg (by omega), List.drop_eq_nil_of_le (by omega), tsizeL, Nat.add_zero]
   | succ d ih =>
    intro i m hi hm
    have hlt : i < e.f3.length := by omega
    have hx := tsize_mem (rd_in e.f3 i hlt)
    rw [rd_drop _ _ hlt, tsizeL] at hm ⊢
    refine Ev.step (fun k => rfl) ?_
    refine Ev.congr (f := fun k => (canopyref5_size.f k (rd_T28 e.f3 (i : Int)).f0 (rd_T28 e.f3 (i : Int)).f1 (rd_T28 e.f3 (i : Int)).f2 (rd_T28 e.f3 (i : Int)).f3).bind fun t => canopyref5_size.l0 k (wrap64 ((m : Int) + t)) (wrap64 ((i : Int) + 1)) e.f0 e.f1 e.f2 e.f3) (fun k => by rw [canopyref5_size.l0, if_pos (by omega), if_pos (by omega)]) ?_
    refine Ev.bind (size_ev n _ (by omega) (by omega)) ?_
    rw [wrap_suc i e.f3.length hlt (by omega)]
    have hm2 : wrap64 ((m : Int) + (tsize (rd_T28 e.f3 (i : Int)) : Int)) = ((m + tsize (rd_T28 e.f3 (i : Int)) : Nat) : Int) := by unfold wrap64; omega
    rw [hm2]
    have := ih (i + 1) (m + tsize (rd_T28 e.f3 (i : Int))) (by omega) (by omega)
    rwa [Nat.add_assoc] at this
  refine Ev.step (fun k => rfl) ?_
  have := loop e.f3.length 0 1 (by omega) (by rw [List.drop_zero]; omega)
  rw [List.drop_zero, Nat.add_comm 1, ← tsize_eq] at this
  exact this
mutual
def tformed : S28 → Bool
 | ⟨a, b, c, l⟩ => shF ⟨a, b, c, l⟩ && tformedL l
def tformedL : List S28 → Bool
 | [] => true
 | x :: xs => tformed x && tformedL xs
end
theorem tformed_eq (e : S28) : tformed e = (shF e && tformedL e.f3) := by cases e; rw [tformed]
theorem formed_start (k : Nat) (e : S28) : canopyref5_formed.f (k + 3) e.f0 e.f1 e.f2 e.f3 = canopyref5_formed.l0 k (shF e) 0 e.f0 e.f1 e.f2 e.f3 := by
 rw [canopyref5_formed.f]
 unfold shF
 have B : ∀ a b : Int, (a == b) = decide (a = b) := fun a b => by rw [Bool.eq_iff_iff]; simp
 have C : ∀ a b : Nat, (a == b) = decide (a = b) := fun a b => by rw [Bool.eq_iff_iff]; simp
 by_cases h1 : e.f0 = 1
 ·simp only [h1, canopyref5_formed.j0, canopyref5_formed.j1, if_true]
  by_cases a0 : e.f3.length = 0 <;> by_cases a1 : e.f1 = 0 <;> simp [a0, a1, B, C]
 by_cases h2 : e.f0 = 2
 ·simp only [h2, canopyref5_formed.j0, canopyref5_formed.j1, if_true]
  by_cases a0 : e.f3.length = 0 <;> by_cases a1 : e.f1 = 0 <;> simp [a0, a1, B, C]
 by_cases h3 : e.f0 = 3
 ·simp only [h3, canopyref5_formed.j0, canopyref5_formed.j1]
  by_cases a0 : e.f3.length = 0 <;> simp [a0, B, C]
 by_cases h4 : e.f0 = 4
 ·simp only [h4, canopyref5_formed.j0, canopyref5_formed.j1]
  have : ((e.f3.length : Int) == 1) = (e.f3.length == 1) := by rw [Bool.eq_iff_iff]; simp; omega
  simp [this]
 by_cases h5 : e.f0 = 5
 ·simp only [h5, canopyref5_formed.j0, canopyref5_formed.j1]
  by_cases a0 : 2 ≤ e.f3.length
  ·have a2 : (e.f3.length : Int) > 1 := by omega
   by_cases a1 : e.f1 = 0 <;> simp [a0, a1, a2, B, C]
  ·have a2 : ¬ (e.f3.length : Int) > 1 := by omega
   simp [a0, a2, B, C]
 by_cases h6 : e.f0 = 6
 ·simp only [h6, canopyref5_formed.j0, canopyref5_formed.j1]
  by_cases a0 : 2 ≤ e.f3.length
  ·have a2 : (e.f3.length : Int) > 1 := by omega
   by_cases a1 : e.f1 = 0 <;> simp [a0, a1, a2, B, C]
  ·have a2 : ¬ (e.f3.length : Int) > 1 := by omega
   simp [a0, a2, B, C]
 by_cases h7 : e.f0 = 7
 ·simp only [h7, canopyref5_formed.j0, canopyref5_formed.j1]
  by_cases a0 : e.f3.length = 1
  ·by_cases a1 : e.f1 = 0 <;> simp [a0, a1, B, C]
  ·have a2 : ¬ (e.f3.length : Int) = 1 := by omega
   simp [a0, a2, B, C]
 ·have b1 : (e.f0 == 1) = false := beq_eq_false_iff_ne.mpr h1
  have b2 : (e.f0 == 2) = false := beq_eq_false_iff_ne.mpr h2
  simp [canopyref5_formed.j0, canopyref5_formed.j1, h1, h2, h3, h4, h5, h6, h7]
theorem formed_ev : ∀ (n : Nat) (e : S28), tsize e ≤ n → n ≤ 1000000000 → Ev (fun k => canopyref5_formed.f k e.f0 e.f1 e.f2 e.f3) (tformed e)
 | 0, e, h, _ => by rw [tsize_eq] at h; omega
 | n + 1, e, h, hn => by
  have hs := tsize_eq e
  have hl := len_tsizeL e.f3
  have loop : ∀ (d i : Nat) (b : Bool), i + d = e.f3.length → Ev (fun k => canopyref5_formed.l0 k b (i : Int) e.f0 e.f1 e.f2 e.f3) (b && tformedL (e.f3.drop i)) := by
   intro d
   induction d with
   | zero =>
    intro i b hi
    refine Ev.step (fun k => rfl) ?_
    refine Ev.congr (f := fun _ => some (b && tformedL (e.f3.drop i))) (fun k => ?_) (Ev.now _)
    rw [canopyref5_formed.l0, if_neg (by omega), List.drop_eq_nil_of_le (by omega), tformedL, Bool.and_true]
   | succ d ih =>
    intro i b hi
    have hlt : i < e.f3.length := by omega
    have hx := tsize_mem (rd_in e.f3 i hlt)
    refine Ev.step (fun k => rfl) ?_
    cases b with
    | false => exact Ev.congr (f := fun _ => some false) (fun k => by rw [canopyref5_formed.l0, if_pos (by omega), if_neg (by decide)]) (Ev.now _)
    | true =>
     refine Ev.congr (f := fun k => (canopyref5_formed.f k (rd_T28 e.f3 (i : Int)).f0 (rd_T28 e.f3 (i : Int)).f1 (rd_T28 e.f3 (i : Int)).f2 (rd_T28 e.f3 (i : Int)).f3).bind fun t => canopyref5_formed.l0 k t (wrap64 ((i : Int) + 1)) e.f0 e.f1 e.f2 e.f3) (fun k => by rw [canopyref5_formed.l0, if_pos (by omega), if_pos rfl, if_pos (by omega)]) ?_
     refine Ev.bind (formed_ev n _ (by omega) (by omega)) ?_
     rw [wrap_suc i e.f3.length hlt (by omega), rd_drop _ _ hlt, tformedL, Bool.true_and]
     exact ih (i + 1) _ (by omega)
  have := loop e.f3.length 0 (shF e) (by omega)
  rw [List.drop_zero, ← tformed_eq] at this
  obtain ⟨K, hK⟩ := this
  refine ⟨K + 3, fun k hk => ?_⟩
  obtain ⟨m, rfl⟩ : ∃ m, k = m + 3 := ⟨k - 3, by omega⟩
  exact (formed_start m e).trans (hK m (by omega))
/-! #### names -/
def kindsB (l : List S56) : Bool := l.all fun x => x.f1 == 1 || x.f1 == 2 || x.f1 == 3
mutual
def tbad (l : List S56) : S28 → Bool
 | ⟨a, b, c, xs⟩ => ovNm l ⟨a, b, c, xs⟩ false || tbadL l xs
def tbadL (l : List S56) : List S28 → Bool
 | [] => false
 | x :: xs => tbad l x || tbadL l xs
end
theorem tbad_eq (l : List S56) (e : S28) : tbad l e = (ovNm l e false || tbadL l e.f3) := by cases e; rw [tbad]
theorem kind_of {l : List S56} (h : kindsB l = true) {i : Int} (h0 : 0 ≤ i) (h1 : i < l.length) : (rd_T56 l i).f1 = 1 ∨ (rd_T56 l i).f1 = 2 ∨ (rd_T56 l i).f1 = 3 := by
 have hm : rd_T56 l i ∈ l := by
  unfold rd_T56
  rw [List.getD_eq_getElem?_getD, List.getElem?_eq_getElem (show i.toNat < l.length by omega)]
  exact List.getElem_mem _
 have := List.all_eq_true.mp h _ hm
 simpa [or_assoc] using this
theorem is_any (l : List S56) (h : kindsB l = true) (i : Int) : canopyref5_is.f l i 0 = some (!(ofF l i == 0)) := by
 unfold canopyref5_is.f ofF
 by_cases h0 : i < 0
 ·rw [if_neg (by omega), if_pos h0]; rfl
 ·rw [if_pos (by omega), if_neg h0]
  by_cases h1 : i < (l.length : Int)
  ·rw [if_pos h1, if_pos rfl, if_neg (by omega)]
   rcases kind_of h (by omega) h1 with e | e | e <;> rw [e] <;> rfl
  ·rw [if_neg h1, if_pos (by omega)]; rfl
theorem is_kind (l : List S56) (i k : Int) (hk : k ≠ 0) : canopyref5_is.f l i k = some (ofF l i == k) := by
 have h9 : ((0 : Int) == k) = false := beq_eq_false_iff_ne.mpr (Ne.symm hk)
 unfold canopyref5_is.f ofF
 by_cases h0 : i < 0
 ·rw [if_neg (by omega), if_pos h0, h9]
 ·rw [if_pos (by omega), if_neg h0]
  by_cases h1 : i < (l.length : Int)
  ·rw [if_pos h1, if_neg hk, if_pos (by omega), if_neg (by omega)]
  ·rw [if_neg h1, if_pos (by omega), h9]
theorem named_start (l : List S56) (hl : kindsB l = true) (k : Nat) (e : S28) : canopyref5_named.f (k + 1) l e.f0 e.f1 e.f2 e.f3 = canopyref5_named.j0 k l (ovNm l e false) e.f0 e.f1 e.f2 e.f3 := by
 rw [canopyref5_named.f]
 unfold ovNm
 by_cases h3 : e.f0 = 3
 ·rw [if_pos h3, if_pos h3, is_any l hl, Option.bind_some, Bool.false_or]
  have h4 : ¬ e.f0 = 4 := by omega
  cases ofF l e.f1 == 0 with
  | true => rw [if_neg (by decide)]
  | false => rw [if_pos (by decide), if_neg h4]
 ·rw [if_neg h3, if_neg h3]
  by_cases h4 : e.f0 = 4
  ·rw [if_pos h4, if_pos h4, is_kind l _ 1 (by decide), Option.bind_some, Bool.false_or]
   have n1 : (ofF l e.f1 != 1) = !(ofF l e.f1 == 1) := rfl
   have n2 : (ofF l e.f2 != 2) = !(ofF l e.f2 == 2) := rfl
   rw [n1, n2]
   cases ofF l e.f1 == 1 with
   | true => rw [if_pos rfl, is_kind l _ 2 (by decide), Option.bind_some]; rfl
   | false => rw [if_neg (by decide)]; rfl
  ·rw [if_neg h4, if_neg h4]
theorem named_ev (l : List S56) (hl9 : kindsB l = true) : ∀ (n : Nat) (e : S28), tsize e ≤ n → n ≤ 1000000000 → Ev (fun k => canopyref5_named.f k l e.f0 e.f1 e.f2 e.f3) (!tbad l e)
 | 0, e, h, _ => by rw [tsize_eq] at h; omega
 | n + 1, e, h, hn => by
  have hs := tsize_eq e
  have hl := len_tsizeL e.f3
  have loop : ∀ (d i : Nat), i + d = e.f3.length → Ev (fun k => canopyref5_named.l0 k l (i : Int) e.f0 e.f1 e.f2 e.f3) (!tbadL l (e.f3.drop i)) := by
   intro d
   induction d with
   | zero =>
    intro i hi
    refine Ev.step (fun k => rfl) ?_
    refine Ev.congr (f := fun _ => some (!tbadL l (e.f3.drop i))) (fun k => ?_) (Ev.now _)
    rw [canopyref5_named.l0, if_neg (by omega), List.drop_eq_nil_of_le (by omega), tbadL]
    rfl
   | succ d ih =>
    intro i hi
    have hlt : i < e.f3.length := by omega
    have hx := tsize_mem (rd_in e.f3 i hlt)
    refine Ev.step (fun k => rfl) ?_
    refine Ev.congr (f := fun k => (canopyref5_named.f k l (rd_T28 e.f3 (i : Int)).f0 (rd_T28 e.f3 (i : Int)).f1 (rd_T28 e.f3 (i : Int)).f2 (rd_T28 e.f3 (i : Int)).f3).bind fun t => if t = true then canopyref5_named.l0 k l (wrap64 ((i : Int) + 1)) e.f0 e.f1 e.f2 e.f3 else some false) (fun k => by rw [canopyref5_named.l0, if_pos (by omega), if_pos (by omega)]) ?_
    refine Ev.bind (named_ev l hl9 n _ (by omega) (by omega)) ?_
    rw [wrap_suc i e.f3.length hlt (by omega), rd_drop _ _ hlt, tbadL]
    cases tbad l (rd_T28 e.f3 (i : Int)) with
    | true => exact Ev.now _
    | false => exact ih (i + 1) (by omega)
  have := loop e.f3.length 0 (by omega)
  rw [List.drop_zero] at this
  refine Ev.step (fun k => named_start l hl9 k e) ?_
  refine Ev.step (fun k => rfl) ?_
  rw [tbad_eq]
  cases ovNm l e false with
  | true => exact Ev.congr (f := fun _ => some false) (fun k => by rw [canopyref5_named.j0, if_pos rfl]) (Ev.now _)
  | false => exact Ev.congr (fun k => by rw [canopyref5_named.j0, if_neg (by decide)]; rfl) this
/-! #### loose symbols -/
mutual
def tloose (l : List S56) (nest : Bool) : S28 → Bool
 | ⟨a, b, c, xs⟩ => ovLs l ⟨a, b, c, xs⟩ nest false || tlooseL l (nest || a == 4) xs
def tlooseL (l : List S56) (nest : Bool) : List S28 → Bool
 | [] => false
 | x :: xs => tloose l nest x || tlooseL l nest xs
end
theorem tloose_eq (l : List S56) (nest : Bool) (e : S28) : tloose l nest e = (ovLs l e nest false || tlooseL l (nest || e.f0 == 4) e.f3) := by cases e; rw [tloose]
theorem tbadL_mem {l : List S56} : ∀ {xs : List S28} {x : S28}, tbadL l xs = false → x ∈ xs → tbad l x = false
 | y :: ys, x, h, hm => by
  rw [tbadL, Bool.or_eq_false_iff] at h
  rcases List.mem_cons.mp hm with rfl | hm
  ·exact h.1
  ·exact tbadL_mem h.2 hm
theorem loose_start (l : List S56) (hl : kindsB l = true) (k : Nat) (e : S28) (nest : Bool) (hb : ovNm l e false = false) : canopyref5_loose.f (k + 1) l e.f0 e.f1 e.f2 e.f3 nest = canopyref5_loose.j0 k l nest (ovLs l e nest false) e.f0 e.f1 e.f2 e.f3 := by
 rw [canopyref5_loose.f]
 unfold ovLs
 by_cases h3 : e.f0 = 3
 ·rw [if_pos h3, if_pos h3, Bool.false_or]
  cases nest with
  | false => rw [if_neg (by decide)]; rfl
  | true =>
   rw [if_pos rfl, Bool.true_and]
   unfold ovNm at hb
   rw [if_pos h3, Bool.false_or] at hb
   unfold ofF at hb ⊢
   by_cases h0 : e.f1 < 0
   ·rw [if_pos h0] at hb; cases hb
   ·rw [if_neg h0] at hb
    simp only [if_neg h0]
    by_cases h1 : e.f1 < (l.length : Int)
    ·rw [if_neg (show ¬ e.f1 ≥ (l.length : Int) by omega)] at hb
     simp only [if_neg (show ¬ e.f1 ≥ (l.length : Int) by omega)]
     rw [if_pos (by omega), if_pos h1]
     rcases kind_of hl (by omega) h1 with q | q | q <;> rw [q] <;> rfl
    ·rw [if_pos (by omega)] at hb; cases hb
 ·rw [if_neg h3, if_neg h3]
theorem loose_ev (l : List S56) (hl9 : kindsB l = true) : ∀ (n : Nat) (e : S28) (nest : Bool), tbad l e = false → tsize e ≤ n → n ≤ 1000000000 → Ev (fun k => canopyref5_loose.f k l e.f0 e.f1 e.f2 e.f3 nest) (tloose l nest e)
 | 0, e, nest, _, h, _ => by rw [tsize_eq] at h; omega
 | n + 1, e, nest, hb, h, hn => by
  have hs := tsize_eq e
  have hl := len_tsizeL e.f3
  rw [tbad_eq, Bool.or_eq_false_iff] at hb
  have loop : ∀ (d i : Nat), i + d = e.f3.length → Ev (fun k => canopyref5_loose.l0 k l nest (i : Int) e.f0 e.f1 e.f2 e.f3) (tlooseL l (nest || e.f0 == 4) (e.f3.drop i)) := by
   intro d
   induction d with
   | zero =>
    intro i hi
    refine Ev.step (fun k => rfl) ?_
    refine Ev.congr (f := fun _ => some (tlooseL l (nest || e.f0 == 4) (e.f3.drop i))) (fun k => ?_) (Ev.now _)
    rw [canopyref5_loose.l0, if_neg (by omega), List.drop_eq_nil_of_le (by omega), tlooseL]
   | succ d ih =>
    intro i hi
    have hlt : i < e.f3.length := by omega
    have hx := tsize_mem (rd_in e.f3 i hlt)
    refine Ev.step (fun k => rfl) ?_
    refine Ev.congr (f := fun k => (canopyref5_loose.f k l (rd_T28 e.f3 (i : Int)).f0 (rd_T28 e.f3 (i : Int)).f1 (rd_T28 e.f3 (i : Int)).f2 (rd_T28 e.f3 (i : Int)).f3 (nest || e.f0 == 4)).bind fun t => if t = true then some true else canopyref5_loose.l0 k l nest (wrap64 ((i : Int) + 1)) e.f0 e.f1 e.f2 e.f3) (fun k => by
     rw [canopyref5_loose.l0, if_pos (by omega), if_pos (by omega)]
     cases nest
     ·rw [if_neg (by decide), Bool.false_or]
     ·rw [if_pos rfl, Bool.true_or]) ?_
    refine Ev.bind (loose_ev l hl9 n _ _ (tbadL_mem hb.2 (rd_in e.f3 i hlt)) (by omega) (by omega)) ?_
    rw [wrap_suc i e.f3.length hlt (by omega), rd_drop _ _ hlt, tlooseL]
    cases tloose l (nest || e.f0 == 4) (rd_T28 e.f3 (i : Int)) with
    | true => exact Ev.now _
    | false => exact ih (i + 1) (by omega)
  have := loop e.f3.length 0 (by omega)
  rw [List.drop_zero] at this
  refine Ev.step (fun k => loose_start l hl9 k e nest hb.1) ?_
  refine Ev.step (fun k => rfl) ?_
  rw [tloose_eq]
  cases ovLs l e nest false with
  | true => exact Ev.congr (f := fun _ => some true) (fun k => by rw [canopyref5_loose.j0, if_pos rfl]) (Ev.now _)
  | false => exact Ev.congr (fun k => by rw [canopyref5_loose.j0, if_neg (by decide)]; rfl) this
theorem within1_eq (a n : Int) (h0 : 0 < n) (h1 : n ≤ 1000000) : canopylaw1_within.f a n = some (a % n) := by
 unfold canopylaw1_within.f
 rw [if_neg (by omega)]
 have e : Int.tmod a n = if a % n = 0 then 0 else if 0 ≤ a then a % n else a % n - n := by
  rw [Int.tmod_eq_emod]
  have : n.natAbs = n := by omega
  by_cases hz : a % n = 0
  ·have : n ∣ a := Int.dvd_of_emod_eq_zero hz
   simp [hz, this]
  ·have : ¬ n ∣ a := fun h => hz (Int.emod_eq_zero_of_dvd h)
   by_cases ha : 0 ≤ a
   ·simp [hz, ha]
   ·simp only [hz, ha, this, or_self, if_false]
    omega
 have a0 := Int.emod_nonneg a (show n ≠ 0 by omega)
 have a1 := Int.emod_lt_of_pos a h0
 rw [e]
 split
 ·rename_i h; rw [if_neg (by omega), h]
 ·split
  ·rw [if_neg (by omega)]
  ·rw [if_pos (by omega)]
   congr 1
   unfold wrap64
   omega
/-! symbols that may be -/
def nameB (s : ByteArray) : Bool := decide (1 ≤ s.size) && decide (s.size ≤ 8) && s.data.toList.all (fun b => decide (97 ≤ b.toNat) && decide (b.toNat ≤ 122))
def kindB (k : Int) : Bool := k == 1 || k == 2 || k == 3
def key (x : S56) : List UInt8 × Int := (x.f0.data.toList, x.f1)
def distinct : List (List UInt8 × Int) → Bool
 | [] => true
 | x :: xs => !(xs.contains x) && distinct xs
def goodB (l : List S56) : Bool := decide (0 < l.length) && decide (l.length ≤ 20) && l.all (fun x => nameB x.f0 && kindB x.f1) && distinct (l.map key)
def sy (c : UInt8) (k : Int) : S56 := ⟨⟨#[c]⟩, k⟩
def seven : List S56 := [sy 97 1, sy 97 2, sy 98 3, sy 99 1, sy 99 2, sy 100 3, sy 120 2]
def symsAll : List (List S56) := [seven.take 3, seven.take 4, seven.take 5, seven.take 6, seven.take 7, [sy 98 3, sy 97 2, sy 97 1], [sy 97 1], [sy 97 2], [sy 98 3], [sy 99 1], [sy 99 2], [sy 100 3], [sy 120 2]]
theorem symsAll_good : symsAll.all goodB = true := by decide +kernel
theorem cut_of (a : Int) (h0 : 0 ≤ a) (h1 : a < 5) : (if 0 ≤ (wrap64 (3 + a)) then (if (wrap64 (3 + a)) ≤ (seven.length : Int) then (some (seven.take ((wrap64 (3 + a)) : Int).toNat)) else (none)) else (none)) = some (seven.take (3 + a).toNat) := by
 have e : wrap64 (3 + a) = 3 + a := (by unfold wrap64; omega)
 rw [e, if_pos (by omega), if_pos (show (3 + a : Int) ≤ (seven.length : Int) by simp [seven]; omega)]
theorem cut_mem (a : Int) (h0 : 0 ≤ a) (h1 : a < 5) : seven.take (3 + a).toNat ∈ symsAll := by
 have : a = 0 ∨ a = 1 ∨ a = 2 ∨ a = 3 ∨ a = 4 := by omega
 rcases this with rfl | rfl | rfl | rfl | rfl <;> simp [symsAll]
theorem syms_some (n : Int) (ns : List Int) : ∃ l, canopylaw1_Syms.f n ns = some l ∧ l ∈ symsAll := by
 unfold canopylaw1_Syms.f
 simp only [within1_eq _ _ (show (0 : Int) < 5 by omega) (by omega), within1_eq _ _ (show (0 : Int) < 7 by omega) (by omega), within1_eq _ _ (show (0 : Int) < 11 by omega) (by omega), Option.bind_some]
 have a0 := Int.emod_nonneg n (show (5 : Int) ≠ 0 by omega)
 have a1 := Int.emod_lt_of_pos n (show (0 : Int) < 5 by omega)
 generalize n % 5 = a at *
 by_cases h7 : n % 7 = 1
 ·rw [if_pos h7]
  exact ⟨_, rfl, by simp [symsAll, sy, rd_T56]⟩
 ·rw [if_neg h7]
  by_cases h11 : n % 11 = 2
  ·rw [if_pos h11]
   cases ns with
   | nil => exact ⟨_, cut_of a a0 a1, cut_mem a a0 a1⟩
   | cons x xs =>
    rw [if_pos (by simp only [List.length_cons]; omega), if_pos (by simp only [List.length_cons]; omega)]
    have b0 := Int.emod_nonneg (rd (x :: xs) 0) (show (7 : Int) ≠ 0 by omega)
    have b1 := Int.emod_lt_of_pos (rd (x :: xs) 0) (show (0 : Int) < 7 by omega)
    generalize rd (x :: xs) 0 % 7 = b at *
    have : b = 0 ∨ b = 1 ∨ b = 2 ∨ b = 3 ∨ b = 4 ∨ b = 5 ∨ b = 6 := by omega
    rcases this with rfl | rfl | rfl | rfl | rfl | rfl | rfl <;> exact ⟨_, rfl, by simp [symsAll, sy, rd_T56]⟩
  ·rw [if_neg h11]
   exact ⟨_, cut_of a a0 a1, cut_mem a a0 a1⟩
theorem syms_good (n : Int) (ns : List Int) : ∃ l, canopylaw1_Syms.f n ns = some l ∧ goodB l = true := by
 obtain ⟨l, h, hm⟩ := syms_some n ns
 exact ⟨l, h, List.all_eq_true.1 symsAll_good l hm⟩
theorem good_len {l : List S56} (h : goodB l = true) : 0 < l.length ∧ l.length ≤ 20 := by
 simp only [goodB, Bool.and_eq_true, decide_eq_true_eq] at h
 exact ⟨h.1.1.1, h.1.1.2⟩
theorem good_at {l : List S56} (h : goodB l = true) {x : S56} (hx : x ∈ l) : nameB x.f0 = true ∧ kindB x.f1 = true := by
 simp only [goodB, Bool.and_eq_true, decide_eq_true_eq, List.all_eq_true] at h
 exact h.1.2 x hx
theorem distinct_inj : ∀ (l : List (List UInt8 × Int)), distinct l = true → ∀ i j (hi : i < l.length) (hj : j < l.length), l[i] = l[j] → i = j
 | [], _, i, _, hi, _, _ => by simp at hi
 | x :: xs, h, i, j, hi, hj, e => by
  simp only [distinct, Bool.and_eq_true, Bool.not_eq_true'] at h
  have hn : ∀ y ∈ xs, y ≠ x := fun y hy he => by
   subst he
   have := List.contains_iff_mem.2 hy
   rw [h.1] at this
   cases this
  cases i with
  | zero =>
   cases j with
   | zero => rfl
   | succ j =>
    exact absurd e.symm (hn _ (List.getElem_mem _))
  | succ i =>
   cases j with
   | zero => exact absurd e (hn _ (List.getElem_mem _))
   | succ j => rw [distinct_inj xs h.2 i j (by simpa using hi) (by simpa using hj) e]
theorem good_kinds {l : List S56} (h : goodB l = true) : kindsB l = true := by
 unfold kindsB
 rw [List.all_eq_true]
 intro x hx
 exact (good_at h hx).2
theorem good_names {l : List S56} (h : goodB l = true) : ∀ x ∈ l, x.f0.size ≤ 8 := by
 intro x hx
 have := (good_at h hx).1
 simp only [nameB, Bool.and_eq_true, decide_eq_true_eq] at this
 exact this.1.2
end Go.Proofs.YtodbnnfiadcbaaaL
namespace Go.Proofs.Ytodbnnfiadcbaaa.P
open Go.RowKit Go.Proofs.YtodbnnfiadcbaaaW.PrintWords Go.Proofs.YtodbnnfiadcbaaaW.PrintLast Go.Proofs.YtodbnnfiadcbaaaW.PrintMore Go.Proofs.YtodbnnfiadcbaaaH
attribute [local go_sem] max2_int min2_int max_two min_two max_three min_three max_four min_four   -- for this text's walks alone
set_option linter.unusedVariables false
set_option linter.unusedSimpArgs false

/-! ### canopyref5_Check: function 16 -/
def canopyref5_Check.f (k : Nat) (l0 : List (S56)) (a1_0 : Int) (a1_1 : Int) (a1_2 : Int) (l1_3 : List (S28)) : Option (Int) := (canopyref5_deep.f k a1_0 a1_1 a1_2 l1_3).bind fun t840 => (if t840 > 20 then (some 3) else ((canopyref5_size.f k a1_0 a1_1 a1_2 l1_3).bind fun t841 => (if t841 > 200 then (some 2) else ((canopyref5_formed.f k a1_0 a1_1 a1_2 l1_3).bind fun t842 => (if t842 = true then ((canopyref5_named.f k l0 a1_0 a1_1 a1_2 l1_3).bind fun t843 => (if t843 = true then ((canopyref5_loose.f k l0 a1_0 a1_1 a1_2 l1_3 false).bind fun t844 => (if t844 = true then (some 8) else (some 0))) else (some 6))) else (some 7))))))
theorem canopyref5_Check.mono : ∀ a0 a1 a2 a3 a4 k, LeO (canopyref5_Check.f k a0 a1 a2 a3 a4) (canopyref5_Check.f (k + 1) a0 a1 a2 a3 a4) := by
 intro a0 a1 a2 a3 a4 k
 unfold canopyref5_Check.f
 repeat' first
   | (with_reducible exact canopyref5_deep.mono _ _ _ _ _)
   | (with_reducible exact canopyref5_formed.mono _ _ _ _ _)
   | (with_reducible exact canopyref5_loose.mono _ _ _ _ _ _ _)
   | (with_reducible exact canopyref5_named.mono _ _ _ _ _ _)
   | (with_reducible exact canopyref5_size.mono _ _ _ _ _)
   | (with_reducible exact LeO.refl _)
   | (with_reducible refine LeO.ite ?_ ?_)
   | (with_reducible refine LeO.bind ?_ (fun _ => ?_))
set_option maxHeartbeats 8000000 in
set_option maxRecDepth 100000 in
theorem canopyref5_Check.calls (k : Nat) (A0 : Option Addr) (c0 : Nat) (l0 : List (S56)) (a1_0 : Int) (a1_1 : Int) (a1_2 : Int) (A1_3 : Option Addr) (c1_3 : Nat) (l1_3 : List (S28)) (r : Int) (w : World) (hr0 : Kd.C k56 w A0 l0.length l0) (hc0 : l0.length ≤ c0) (hr1_3 : Kd.C k28 w A1_3 l1_3.length l1_3) (hc1_3 : l1_3.length ≤ c1_3) (h : canopyref5_Check.f k l0 a1_0 a1_1 a1_2 l1_3 = some r) :
  Calls Try.prog 16 #[.slice A0 l0.length c0, .agg #[.int .i64 a1_0, .int .i64 a1_1, .int .i64 a1_2, .slice A1_3 l1_3.length c1_3]] w fun e w' => e = .returned (.int .i64 r) ∧ Below w.heap.size w w' := by
 have HR0 := M0 hr0
 have HC0 := M0 hc0
 clear hr0 hc0
 have HR1_3 := M0 hr1_3
 have HC1_3 := M0 hc1_3
 clear hr1_3 hc1_3
 have HB := M0 (Below.refl w.heap.size w)
 have H : ((canopyref5_deep.f k a1_0 a1_1 a1_2 l1_3).bind fun t840 => (if t840 > 20 then (some 3) else ((canopyref5_size.f k a1_0 a1_1 a1_2 l1_3).bind fun t841 => (if t841 > 200 then (some 2) else ((canopyref5_formed.f k a1_0 a1_1 a1_2 l1_3).bind fun t842 => (if t842 = true then ((canopyref5_named.f k l0 a1_0 a1_1 a1_2 l1_3).bind fun t843 => (if t843 = true then ((canopyref5_loose.f k l0 a1_0 a1_1 a1_2 l1_3 false).bind fun t844 => (if t844 = true then (some 8) else (some 0))) else (some 6))) else (some 7))))))) = some r := h
 clear h
 replace H := Option.bind_eq_some_iff.mp H
 obtain ⟨t840, A30, H⟩ := H
 try dsimp only at H
 have A3 := M0 A30
 clear A30
 by_cases c4 : t840 > 20
 ·rw [if_pos c4] at H
  have c4b0 : decide (20 < t840) = true := decide_eq_true c4
  clear c4
  obtain rfl := Option.some.inj H
  go_enter Try.func16, Try.ntmps16
  go_wp2_with (first | ((with_reducible refine gate_dst (N := 3) rfl ?_); refine box_event ?hg (N := 3) ?hd (cs := #[.int .i64 a1_0, .int .i64 a1_1, .int .i64 a1_2, .slice A1_3 l1_3.length c1_3]) (t := 28) ?hr ?_; (case hd => rfl); (case hg => rfl); (case hr => (go_simp; done)); intro gb839 hg w5 hbox hb; have BK839 := M0 hbox; replace HB := M0 (below_step HB.out hb); clear hb hbox hg; obtain ⟨_, _, _, _, _, _, _, _⟩ := cells4 BK839.out) | ((with_reducible refine gate_callee (f := 31) rfl ?_); refine goesL_ (some 7) rfl rfl Try.func31 (by kernel_rfl) rfl #[.agg #[.int .i64 a1_0, .int .i64 a1_1, .int .i64 a1_2, .slice A1_3 l1_3.length c1_3]] rfl (by (simp only [List.map_toArray, List.map_cons, List.map_nil]); rfl) ?_; (with_reducible refine (canopyref5_deep.calls k a1_0 a1_1 a1_2 _ _ l1_3 t840 _ ?side1 ?side2 A3.out).mono ?_); (case side1 => repeat (exact (Kd.C_below HR1_3.out HB.out))); (case side2 => exact HC1_3.out); rintro e w7 ⟨rfl, hb⟩; refine ⟨_, rfl, ?_⟩; clear BK839; replace HB := M0 (below_step HB.out hb); clear hb))
  go_ret
  exact ⟨by rfl, by with_reducible exact HB.out⟩
 ·rw [if_neg c4] at H
  have c4b0 : decide (20 < t840) = false := decide_eq_false c4
  clear c4
  replace H := Option.bind_eq_some_iff.mp H
  obtain ⟨t841, A80, H⟩ := H
  try dsimp only at H
  have A8 := M0 A80
  clear A80
  by_cases c9 : t841 > 200
  ·rw [if_pos c9] at H
   have c9b0 : decide (200 < t841) = true := decide_eq_true c9
   clear c9
   obtain rfl := Option.some.inj H
   go_enter Try.func16, Try.ntmps16
   go_wp2_with (first | ((with_reducible refine gate_dst (N := 3) rfl ?_); refine box_event ?hg (N := 3) ?hd (cs := #[.int .i64 a1_0, .int .i64 a1_1, .int .i64 a1_2, .slice A1_3 l1_3.length c1_3]) (t := 28) ?hr ?_; (case hd => rfl); (case hg => rfl); (case hr => (go_simp; done)); intro gb839 hg w10 hbox hb; have BK839 := M0 hbox; replace HB := M0 (below_step HB.out hb); clear hb hbox hg; obtain ⟨_, _, _, _, _, _, _, _⟩ := cells4 BK839.out) | ((with_reducible refine gate_callee (f := 31) rfl ?_); refine goesL_ (some 7) rfl rfl Try.func31 (by kernel_rfl) rfl #[.agg #[.int .i64 a1_0, .int .i64 a1_1, .int .i64 a1_2, .slice A1_3 l1_3.length c1_3]] rfl (by (simp only [List.map_toArray, List.map_cons, List.map_nil]); rfl) ?_; (with_reducible refine (canopyref5_deep.calls k a1_0 a1_1 a1_2 _ _ l1_3 t840 _ ?side1 ?side2 A3.out).mono ?_); (case side1 => repeat (exact (Kd.C_below HR1_3.out HB.out))); (case side2 => exact HC1_3.out); rintro e w12 ⟨rfl, hb⟩; refine ⟨_, rfl, ?_⟩; replace BK839 := M0 (blk_below BK839.out hb); replace HB := M0 (below_step HB.out hb); clear hb; obtain ⟨_, _, _, _, _, _, _, _⟩ := cells4 BK839.out) | ((with_reducible refine gate_callee (f := 32) rfl ?_); refine goesL_ (some 11) rfl rfl Try.func32 (by kernel_rfl) rfl #[.agg #[.int .i64 a1_0, .int .i64 a1_1, .int .i64 a1_2, .slice A1_3 l1_3.length c1_3]] rfl (by (simp only [List.map_toArray, List.map_cons, List.map_nil]); rfl) ?_; (with_reducible refine (canopyref5_size.calls k a1_0 a1_1 a1_2 _ _ l1_3 t841 _ ?side1 ?side2 A8.out).mono ?_); (case side1 => repeat (exact (Kd.C_below HR1_3.out HB.out))); (case side2 => exact HC1_3.out); rintro e w14 ⟨rfl, hb⟩; refine ⟨_, rfl, ?_⟩; clear BK839; replace HB := M0 (below_step HB.out hb); clear hb))
   go_ret
   exact ⟨by rfl, by with_reducible exact HB.out⟩
  ·rw [if_neg c9] at H
   have c9b0 : decide (200 < t841) = false := decide_eq_false c9
   clear c9
   replace H := Option.bind_eq_some_iff.mp H
   obtain ⟨t842, A150, H⟩ := H
   try dsimp only at H
   have A15 := M0 A150
   clear A150
   by_cases c16 : t842 = true
   ·subst c16
    rw [if_pos rfl] at H
    replace H := Option.bind_eq_some_iff.mp H
    obtain ⟨t843, A170, H⟩ := H
    try dsimp only at H
    have A17 := M0 A170
    clear A170
    by_cases c18 : t843 = true
    ·subst c18
     rw [if_pos rfl] at H
     replace H := Option.bind_eq_some_iff.mp H
     obtain ⟨t844, A190, H⟩ := H
     try dsimp only at H
     have A19 := M0 A190
     clear A190
     by_cases c20 : t844 = true
     ·subst c20
      rw [if_pos rfl] at H
      obtain rfl := Option.some.inj H
      go_enter Try.func16, Try.ntmps16
      go_wp2_with (first | ((with_reducible refine gate_dst (N := 3) rfl ?_); refine box_event ?hg (N := 3) ?hd (cs := #[.int .i64 a1_0, .int .i64 a1_1, .int .i64 a1_2, .slice A1_3 l1_3.length c1_3]) (t := 28) ?hr ?_; (case hd => rfl); (case hg => rfl); (case hr => (go_simp; done)); intro gb839 hg w21 hbox hb; have BK839 := M0 hbox; replace HB := M0 (below_step HB.out hb); clear hb hbox hg; obtain ⟨_, _, _, _, _, _, _, _⟩ := cells4 BK839.out) | ((with_reducible refine gate_callee (f := 31) rfl ?_); refine goesL_ (some 7) rfl rfl Try.func31 (by kernel_rfl) rfl #[.agg #[.int .i64 a1_0, .int .i64 a1_1, .int .i64 a1_2, .slice A1_3 l1_3.length c1_3]] rfl (by (simp only [List.map_toArray, List.map_cons, List.map_nil]); rfl) ?_; (with_reducible refine (canopyref5_deep.calls k a1_0 a1_1 a1_2 _ _ l1_3 t840 _ ?side1 ?side2 A3.out).mono ?_); (case side1 => repeat (exact (Kd.C_below HR1_3.out HB.out))); (case side2 => exact HC1_3.out); rintro e w23 ⟨rfl, hb⟩; refine ⟨_, rfl, ?_⟩; replace BK839 := M0 (blk_below BK839.out hb); replace HB := M0 (below_step HB.out hb); clear hb; obtain ⟨_, _, _, _, _, _, _, _⟩ := cells4 BK839.out) | ((with_reducible refine gate_callee (f := 32) rfl ?_); refine goesL_ (some 11) rfl rfl Try.func32 (by kernel_rfl) rfl #[.agg #[.int .i64 a1_0, .int .i64 a1_1, .int .i64 a1_2, .slice A1_3 l1_3.length c1_3]] rfl (by (simp only [List.map_toArray, List.map_cons, List.map_nil]); rfl) ?_; (with_reducible refine (canopyref5_size.calls k a1_0 a1_1 a1_2 _ _ l1_3 t841 _ ?side1 ?side2 A8.out).mono ?_); (case side1 => repeat (exact (Kd.C_below HR1_3.out HB.out))); (case side2 => exact HC1_3.out); rintro e w25 ⟨rfl, hb⟩; refine ⟨_, rfl, ?_⟩; replace BK839 := M0 (blk_below BK839.out hb); replace HB := M0 (below_step HB.out hb); clear hb; obtain ⟨_, _, _, _, _, _, _, _⟩ := cells4 BK839.out) | ((with_reducible refine gate_callee (f := 33) rfl ?_); refine goesL_ (some 15) rfl rfl Try.func33 (by kernel_rfl) rfl #[.agg #[.int .i64 a1_0, .int .i64 a1_1, .int .i64 a1_2, .slice A1_3 l1_3.length c1_3]] rfl (by (simp only [List.map_toArray, List.map_cons, List.map_nil]); rfl) ?_; (with_reducible refine (canopyref5_formed.calls k a1_0 a1_1 a1_2 _ _ l1_3 true _ ?side1 ?side2 A15.out).mono ?_); (case side1 => repeat (exact (Kd.C_below HR1_3.out HB.out))); (case side2 => exact HC1_3.out); rintro e w27 ⟨rfl, hb⟩; refine ⟨_, rfl, ?_⟩; replace BK839 := M0 (blk_below BK839.out hb); replace HB := M0 (below_step HB.out hb); clear hb; obtain ⟨_, _, _, _, _, _, _, _⟩ := cells4 BK839.out) | ((with_reducible refine gate_callee (f := 34) rfl ?_); refine goesL_ (some 20) rfl rfl Try.func34 (by kernel_rfl) rfl #[.slice A0 l0.length c0, .agg #[.int .i64 a1_0, .int .i64 a1_1, .int .i64 a1_2, .slice A1_3 l1_3.length c1_3]] rfl (by (simp only [List.map_toArray, List.map_cons, List.map_nil]); rfl) ?_; (with_reducible refine (canopyref5_named.calls k _ _ l0 a1_0 a1_1 a1_2 _ _ l1_3 true _ ?side1 ?side2 ?side3 ?side4 A17.out).mono ?_); (case side1 => repeat (exact (Kd.C_below HR0.out HB.out))); (case side2 => exact HC0.out); (case side3 => repeat (exact (Kd.C_below HR1_3.out HB.out))); (case side4 => exact HC1_3.out); rintro e w29 ⟨rfl, hb⟩; refine ⟨_, rfl, ?_⟩; replace BK839 := M0 (blk_below BK839.out hb); replace HB := M0 (below_step HB.out hb); clear hb; obtain ⟨_, _, _, _, _, _, _, _⟩ := cells4 BK839.out) | ((with_reducible refine gate_callee (f := 35) rfl ?_); refine goesL_ (some 25) rfl rfl Try.func35 (by kernel_rfl) rfl #[.slice A0 l0.length c0, .agg #[.int .i64 a1_0, .int .i64 a1_1, .int .i64 a1_2, .slice A1_3 l1_3.length c1_3], .bool false] rfl (by (simp only [List.map_toArray, List.map_cons, List.map_nil]); rfl) ?_; (with_reducible refine (canopyref5_loose.calls k _ _ l0 a1_0 a1_1 a1_2 _ _ l1_3 false true _ ?side1 ?side2 ?side3 ?side4 A19.out).mono ?_); (case side1 => repeat (exact (Kd.C_below HR0.out HB.out))); (case side2 => exact HC0.out); (case side3 => repeat (exact (Kd.C_below HR1_3.out HB.out))); (case side4 => exact HC1_3.out); rintro e w31 ⟨rfl, hb⟩; refine ⟨_, rfl, ?_⟩; clear BK839; replace HB := M0 (below_step HB.out hb); clear hb))
      go_ret
      exact ⟨by rfl, by with_reducible exact HB.out⟩
     ·replace c20 := Bool.eq_false_iff.mpr c20
      subst c20
      rw [if_neg (show ¬ (false = true) by decide)] at H
      obtain rfl := Option.some.inj H
      go_enter Try.func16, Try.ntmps16
      go_wp2_with (first | ((with_reducible refine gate_dst (N := 3) rfl ?_); refine box_event ?hg (N := 3) ?hd (cs := #[.int .i64 a1_0, .int .i64 a1_1, .int .i64 a1_2, .slice A1_3 l1_3.length c1_3]) (t := 28) ?hr ?_; (case hd => rfl); (case hg => rfl); (case hr => (go_simp; done)); intro gb839 hg w32 hbox hb; have BK839 := M0 hbox; replace HB := M0 (below_step HB.out hb); clear hb hbox hg; obtain ⟨_, _, _, _, _, _, _, _⟩ := cells4 BK839.out) | ((with_reducible refine gate_callee (f := 31) rfl ?_); refine goesL_ (some 7) rfl rfl Try.func31 (by kernel_rfl) rfl #[.agg #[.int .i64 a1_0, .int .i64 a1_1, .int .i64 a1_2, .slice A1_3 l1_3.length c1_3]] rfl (by (simp only [List.map_toArray, List.map_cons, List.map_nil]); rfl) ?_; (with_reducible refine (canopyref5_deep.calls k a1_0 a1_1 a1_2 _ _ l1_3 t840 _ ?side1 ?side2 A3.out).mono ?_); (case side1 => repeat (exact (Kd.C_below HR1_3.out HB.out))); (case side2 => exact HC1_3.out); rintro e w34 ⟨rfl, hb⟩; refine ⟨_, rfl, ?_⟩; replace BK839 := M0 (blk_below BK839.out hb); replace HB := M0 (below_step HB.out hb); clear hb; obtain ⟨_, _, _, _, _, _, _, _⟩ := cells4 BK839.out) | ((with_reducible refine gate_callee (f := 32) rfl ?_); refine goesL_ (some 11) rfl rfl Try.func32 (by kernel_rfl) rfl #[.agg #[.int .i64 a1_0, .int .i64 a1_1, .int .i64 a1_2, .slice A1_3 l1_3.length c1_3]] rfl (by (simp only [List.map_toArray, List.map_cons, List.map_nil]); rfl) ?_; (with_reducible refine (canopyref5_size.calls k a1_0 a1_1 a1_2 _ _ l1_3 t841 _ ?side1 ?side2 A8.out).mono ?_); (case side1 => repeat (exact (Kd.C_below HR1_3.out HB.out))); (case side2 => exact HC1_3.out); rintro e w36 ⟨rfl, hb⟩; refine ⟨_, rfl, ?_⟩; replace BK839 := M0 (blk_below BK839.out hb); replace HB := M0 (below_step HB.out hb); clear hb; obtain ⟨_, _, _, _, _, _, _, _⟩ := cells4 BK839.out) | ((with_reducible refine gate_callee (f := 33) rfl ?_); refine goesL_ (some 15) rfl rfl Try.func33 (by kernel_rfl) rfl #[.agg #[.int .i64 a1_0, .int .i64 a1_1, .int .i64 a1_2, .slice A1_3 l1_3.length c1_3]] rfl (by (simp only [List.map_toArray, List.map_cons, List.map_nil]); rfl) ?_; (with_reducible refine (canopyref5_formed.calls k a1_0 a1_1 a1_2 _ _ l1_3 true _ ?side1 ?side2 A15.out).mono ?_); (case side1 => repeat (exact (Kd.C_below HR1_3.out HB.out))); (case side2 => exact HC1_3.out); rintro e w38 ⟨rfl, hb⟩; refine ⟨_, rfl, ?_⟩; replace BK839 := M0 (blk_below BK839.out hb); replace HB := M0 (below_step HB.out hb); clear hb; obtain ⟨_, _, _, _, _, _, _, _⟩ := cells4 BK839.out) | ((with_reducible refine gate_callee (f := 34) rfl ?_); refine goesL_ (some 20) rfl rfl Try.func34 (by kernel_rfl) rfl #[.slice A0 l0.length c0, .agg #[.int .i64 a1_0, .int .i64 a1_1, .int .i64 a1_2, .slice A1_3 l1_3.length c1_3]] rfl (by (simp only [List.map_toArray, List.map_cons, List.map_nil]); rfl) ?_; (with_reducible refine (canopyref5_named.calls k _ _ l0 a1_0 a1_1 a1_2 _ _ l1_3 true _ ?side1 ?side2 ?side3 ?side4 A17.out).mono ?_); (case side1 => repeat (exact (Kd.C_below HR0.out HB.out))); (case side2 => exact HC0.out); (case side3 => repeat (exact (Kd.C_below HR1_3.out HB.out))); (case side4 => exact HC1_3.out); rintro e w40 ⟨rfl, hb⟩; refine ⟨_, rfl, ?_⟩; replace BK839 := M0 (blk_below BK839.out hb); replace HB := M0 (below_step HB.out hb); clear hb; obtain ⟨_, _, _, _, _, _, _, _⟩ := cells4 BK839.out) | ((with_reducible refine gate_callee (f := 35) rfl ?_); refine goesL_ (some 25) rfl rfl Try.func35 (by kernel_rfl) rfl #[.slice A0 l0.length c0, .agg #[.int .i64 a1_0, .int .i64 a1_1, .int .i64 a1_2, .slice A1_3 l1_3.length c1_3], .bool false] rfl (by (simp only [List.map_toArray, List.map_cons, List.map_nil]); rfl) ?_; (with_reducible refine (canopyref5_loose.calls k _ _ l0 a1_0 a1_1 a1_2 _ _ l1_3 false false _ ?side1 ?side2 ?side3 ?side4 A19.out).mono ?_); (case side1 => repeat (exact (Kd.C_below HR0.out HB.out))); (case side2 => exact HC0.out); (case side3 => repeat (exact (Kd.C_below HR1_3.out HB.out))); (case side4 => exact HC1_3.out); rintro e w42 ⟨rfl, hb⟩; refine ⟨_, rfl, ?_⟩; clear BK839; replace HB := M0 (below_step HB.out hb); clear hb))
      go_ret
      exact ⟨by rfl, by with_reducible exact HB.out⟩
    ·replace c18 := Bool.eq_false_iff.mpr c18
     subst c18
     rw [if_neg (show ¬ (false = true) by decide)] at H
     obtain rfl := Option.some.inj H
     go_enter Try.func16, Try.ntmps16
     go_wp2_with (first | ((with_reducible refine gate_dst (N := 3) rfl ?_); refine box_event ?hg (N := 3) ?hd (cs := #[.int .i64 a1_0, .int .i64 a1_1, .int .i64 a1_2, .slice A1_3 l1_3.length c1_3]) (t := 28) ?hr ?_; (case hd => rfl); (case hg => rfl); (case hr => (go_simp; done)); intro gb839 hg w43 hbox hb; have BK839 := M0 hbox; replace HB := M0 (below_step HB.out hb); clear hb hbox hg; obtain ⟨_, _, _, _, _, _, _, _⟩ := cells4 BK839.out) | ((with_reducible refine gate_callee (f := 31) rfl ?_); refine goesL_ (some 7) rfl rfl Try.func31 (by kernel_rfl) rfl #[.agg #[.int .i64 a1_0, .int .i64 a1_1, .int .i64 a1_2, .slice A1_3 l1_3.length c1_3]] rfl (by (simp only [List.map_toArray, List.map_cons, List.map_nil]); rfl) ?_; (with_reducible refine (canopyref5_deep.calls k a1_0 a1_1 a1_2 _ _ l1_3 t840 _ ?side1 ?side2 A3.out).mono ?_); (case side1 => repeat (exact (Kd.C_below HR1_3.out HB.out))); (case side2 => exact HC1_3.out); rintro e w45 ⟨rfl, hb⟩; refine ⟨_, rfl, ?_⟩; replace BK839 := M0 (blk_below BK839.out hb); replace HB := M0 (below_step HB.out hb); clear hb; obtain ⟨_, _, _, _, _, _, _, _⟩ := cells4 BK839.out) | ((with_reducible refine gate_callee (f := 32) rfl ?_); refine goesL_ (some 11) rfl rfl Try.func32 (by kernel_rfl) rfl #[.agg #[.int .i64 a1_0, .int .i64 a1_1, .int .i64 a1_2, .slice A1_3 l1_3.length c1_3]] rfl (by (simp only [List.map_toArray, List.map_cons, List.map_nil]); rfl) ?_; (with_reducible refine (canopyref5_size.calls k a1_0 a1_1 a1_2 _ _ l1_3 t841 _ ?side1 ?side2 A8.out).mono ?_); (case side1 => repeat (exact (Kd.C_below HR1_3.out HB.out))); (case side2 => exact HC1_3.out); rintro e w47 ⟨rfl, hb⟩; refine ⟨_, rfl, ?_⟩; replace BK839 := M0 (blk_below BK839.out hb); replace HB := M0 (below_step HB.out hb); clear hb; obtain ⟨_, _, _, _, _, _, _, _⟩ := cells4 BK839.out) | ((with_reducible refine gate_callee (f := 33) rfl ?_); refine goesL_ (some 15) rfl rfl Try.func33 (by kernel_rfl) rfl #[.agg #[.int .i64 a1_0, .int .i64 a1_1, .int .i64 a1_2, .slice A1_3 l1_3.length c1_3]] rfl (by (simp only [List.map_toArray, List.map_cons, List.map_nil]); rfl) ?_; (with_reducible refine (canopyref5_formed.calls k a1_0 a1_1 a1_2 _ _ l1_3 true _ ?side1 ?side2 A15.out).mono ?_); (case side1 => repeat (exact (Kd.C_below HR1_3.out HB.out))); (case side2 => exact HC1_3.out); rintro e w49 ⟨rfl, hb⟩; refine ⟨_, rfl, ?_⟩; replace BK839 := M0 (blk_below BK839.out hb); replace HB := M0 (below_step HB.out hb); clear hb; obtain ⟨_, _, _, _, _, _, _, _⟩ := cells4 BK839.out) | ((with_reducible refine gate_callee (f := 34) rfl ?_); refine goesL_ (some 20) rfl rfl Try.func34 (by kernel_rfl) rfl #[.slice A0 l0.length c0, .agg #[.int .i64 a1_0, .int .i64 a1_1, .int .i64 a1_2, .slice A1_3 l1_3.length c1_3]] rfl (by (simp only [List.map_toArray, List.map_cons, List.map_nil]); rfl) ?_; (with_reducible refine (canopyref5_named.calls k _ _ l0 a1_0 a1_1 a1_2 _ _ l1_3 false _ ?side1 ?side2 ?side3 ?side4 A17.out).mono ?_); (case side1 => repeat (exact (Kd.C_below HR0.out HB.out))); (case side2 => exact HC0.out); (case side3 => repeat (exact (Kd.C_below HR1_3.out HB.out))); (case side4 => exact HC1_3.out); rintro e w51 ⟨rfl, hb⟩; refine ⟨_, rfl, ?_⟩; clear BK839; replace HB := M0 (below_step HB.out hb); clear hb))
     go_ret
     exact ⟨by rfl, by with_reducible exact HB.out⟩
   ·replace c16 := Bool.eq_false_iff.mpr c16
    subst c16
    rw [if_neg (show ¬ (false = true) by decide)] at H
    obtain rfl := Option.some.inj H
    go_enter Try.func16, Try.ntmps16
    go_wp2_with (first | ((with_reducible refine gate_dst (N := 3) rfl ?_); refine box_event ?hg (N := 3) ?hd (cs := #[.int .i64 a1_0, .int .i64 a1_1, .int .i64 a1_2, .slice A1_3 l1_3.length c1_3]) (t := 28) ?hr ?_; (case hd => rfl); (case hg => rfl); (case hr => (go_simp; done)); intro gb839 hg w52 hbox hb; have BK839 := M0 hbox; replace HB := M0 (below_step HB.out hb); clear hb hbox hg; obtain ⟨_, _, _, _, _, _, _, _⟩ := cells4 BK839.out) | ((with_reducible refine gate_callee (f := 31) rfl ?_); refine goesL_ (some 7) rfl rfl Try.func31 (by kernel_rfl) rfl #[.agg #[.int .i64 a1_0, .int .i64 a1_1, .int .i64 a1_2, .slice A1_3 l1_3.length c1_3]] rfl (by (simp only [List.map_toArray, List.map_cons, List.map_nil]); rfl) ?_; (with_reducible refine (canopyref5_deep.calls k a1_0 a1_1 a1_2 _ _ l1_3 t840 _ ?side1 ?side2 A3.out).mono ?_); (case side1 => repeat (exact (Kd.C_below HR1_3.out HB.out))); (case side2 => exact HC1_3.out); rintro e w54 ⟨rfl, hb⟩; refine ⟨_, rfl, ?_⟩; replace BK839 := M0 (blk_below BK839.out hb); replace HB := M0 (below_step HB.out hb); clear hb; obtain ⟨_, _, _, _, _, _, _, _⟩ := cells4 BK839.out) | ((with_reducible refine gate_callee (f := 32) rfl ?_); refine goesL_ (some 11) rfl rfl Try.func32 (by kernel_rfl) rfl #[.agg #[.int .i64 a1_0, .int .i64 a1_1, .int .i64 a1_2, .slice A1_3 l1_3.length c1_3]] rfl (by (simp only [List.map_toArray, List.map_cons, List.map_nil]); rfl) ?_; (with_reducible refine (canopyref5_size.calls k a1_0 a1_1 a1_2 _ _ l1_3 t841 _ ?side1 ?side2 A8.out).mono ?_); (case side1 => repeat (exact (Kd.C_below HR1_3.out HB.out))); (case side2 => exact HC1_3.out); rintro e w56 ⟨rfl, hb⟩; refine ⟨_, rfl, ?_⟩; replace BK839 := M0 (blk_below BK839.out hb); replace HB := M0 (below_step HB.out hb); clear hb; obtain ⟨_, _, _, _, _, _, _, _⟩ := cells4 BK839.out) | ((with_reducible refine gate_callee (f := 33) rfl ?_); refine goesL_ (some 15) rfl rfl Try.func33 (by kernel_rfl) rfl #[.agg #[.int .i64 a1_0, .int .i64 a1_1, .int .i64 a1_2, .slice A1_3 l1_3.length c1_3]] rfl (by (simp only [List.map_toArray, List.map_cons, List.map_nil]); rfl) ?_; (with_reducible refine (canopyref5_formed.calls k a1_0 a1_1 a1_2 _ _ l1_3 false _ ?side1 ?side2 A15.out).mono ?_); (case side1 => repeat (exact (Kd.C_below HR1_3.out HB.out))); (case side2 => exact HC1_3.out); rintro e w58 ⟨rfl, hb⟩; refine ⟨_, rfl, ?_⟩; clear BK839; replace HB := M0 (below_step HB.out hb); clear hb))
    go_ret
    exact ⟨by rfl, by with_reducible exact HB.out⟩

end Go.Proofs.Ytodbnnfiadcbaaa.P
namespace Go.Proofs.YtodbnnfiadcbaaaL
open Go.RowKit Go.Proofs.Ytodbnnfiadcbaaa.P Go.Proofs.YtodbnnfiadcbaaaW.PrintWords Go.Proofs.YtodbnnfiadcbaaaW.PrintLast Go.Proofs.YtodbnnfiadcbaaaW.PrintMore
set_option linter.unusedSimpArgs false
set_option linter.unusedVariables false
theorem ovA_deep (f : S28 → OvS → Option OvS) : ∀ (xs : List S28) (s : OvS), s.deep = true → ovA f xs s = some s
 | [], s, _ => rfl
 | x :: xs, s, h => by rw [ovA, if_pos h]; exact ovA_deep f xs s h
theorem over_deep (l : List S56) (s : OvS) (e : S28) (d : Int) (nest : Bool) (h : s.deep = true) (k : Nat) : ∃ r : OvS, r.deep = true ∧ overF (k + 1) l s e d nest = some r := by
 refine ⟨⟨wrap64 (s.n + 1), s.deep || decide (20 < d), s.kind, s.name, s.loose⟩, by simp [h], ?_⟩
 rw [overF, if_pos (by simp [h]), ovA_deep _ _ _ (by simp [h])]
theorem ovB_deep (l : List S56) (d : Int) (nest : Bool) (k : Nat) : ∀ (xs : List S28) (s : OvS), s.deep = true → ∃ r : OvS, r.deep = true ∧ ovB (fun x s => overF (k + 1) l s x d nest) xs s = some r
 | [], s, h => ⟨s, h, rfl⟩
 | x :: xs, s, h => by
  obtain ⟨r, hr, e⟩ := over_deep l s x d nest h k
  obtain ⟨r', hr', e'⟩ := ovB_deep l d nest k xs r hr
  exact ⟨r', hr', by rw [ovB, e, Option.bind_some]; exact e'⟩
structure Told (l : List S56) (s r : OvS) (dp sz : Nat) (fm bd lo : Bool) : Prop where
 deep : r.deep = decide (20 < dp)
 n : r.deep = false → r.n = s.n + (sz : Int)
 flags : r.deep = false → r.n ≤ 200 → r.kind = (s.kind || !fm) ∧ r.name = (s.name || bd) ∧ r.loose = (s.loose || lo)
theorem lists (l : List S56) (d : Nat) (nest : Bool) (hd : d ≤ 20) (K : Nat) : ∀ (xs : List S28),
  (∀ x ∈ xs, ∀ s : OvS, s.deep = false → 0 ≤ s.n → s.n + tsize x ≤ 2000000000 → ∃ r, Told l s r (d + tdeep x) (tsize x) (tformed x) (tbad l x) (tloose l nest x) ∧ ∀ k, K ≤ k → overF k l s x ((d + 1 : Nat) : Int) nest = some r) →
  ∀ s : OvS, s.deep = false → 0 ≤ s.n → s.n + tsizeL xs ≤ 2000000000 →
   (∃ r, Told l s r (d + tdeepL xs) (tsizeL xs) (tformedL xs) (tbadL l xs) (tlooseL l nest xs) ∧ ∀ k, K + 1 ≤ k → ovB (fun x s => overF k l s x ((d + 1 : Nat) : Int) nest) xs s = some r) ∧
   (∃ r, r.deep = decide (20 < d + tdeepL xs) ∧ (r.deep = false → r.n = s.n + (tsizeL xs : Int)) ∧ ∀ k, K + 1 ≤ k → ovA (fun x s => overF k l s x ((d + 1 : Nat) : Int) nest) xs s = some r)
 | [], hx, s, h, h0, hn => by
  have e : decide (20 < d + tdeepL []) = false := decide_eq_false (by rw [tdeepL]; omega)
  refine ⟨⟨s, ⟨by rw [e, h], fun _ => by rw [tsizeL]; omega, fun _ _ => by simp [tformedL, tbadL, tlooseL]⟩, fun k _ => rfl⟩, s, by rw [e, h], fun _ => by rw [tsizeL]; omega, fun k _ => rfl⟩
 | x :: xs, hx, s, h, h0, hn => by
  rw [tsizeL] at hn
  obtain ⟨r1, t1, e1⟩ := hx x (by simp) s h h0 (by omega)
  cases hd1 : r1.deep with
  | true =>
   have c : 20 < d + tdeepL (x :: xs) := by
    have := t1.deep
    rw [hd1] at this
    have := of_decide_eq_true this.symm
    rw [tdeepL]; omega
   obtain ⟨r2, hr2⟩ : ∃ r2 : OvS, r2.deep = true ∧ ∀ k, K + 1 ≤ k → ovB (fun x s => overF k l s x ((d + 1 : Nat) : Int) nest) xs r1 = some r2 := by
    obtain ⟨r2, a, b⟩ := ovB_deep l ((d + 1 : Nat) : Int) nest K xs r1 hd1
    refine ⟨r2, a, fun k hk => ?_⟩
    obtain ⟨j, rfl⟩ : ∃ j, k = K + 1 + j := ⟨k - (K + 1), by omega⟩
    exact at_rounds (g := fun k => ovB (fun x s => overF k l s x ((d + 1 : Nat) : Int) nest) xs r1) (fun k => ovB_le (fun x s => overF_le k l s x _ _) _ _) (by omega) b
   refine ⟨⟨r2, ⟨by rw [hr2.1, decide_eq_true c], fun q => absurd (hr2.1.symm.trans q) (by decide), fun q => absurd (hr2.1.symm.trans q) (by decide)⟩, fun k hk => ?_⟩, r1, by rw [hd1, decide_eq_true c], fun q => absurd (hd1.symm.trans q) (by decide), fun k hk => ?_⟩
   ·rw [ovB, e1 k (by omega), Option.bind_some]; exact hr2.2 k hk
   ·rw [ovA, if_neg (by rw [h]; decide), e1 k (by omega), Option.bind_some, ovA_deep _ _ _ hd1]
  | false =>
   have hn1 := t1.n hd1
   have hdx := t1.deep
   rw [hd1] at hdx
   have hdx := of_decide_eq_false hdx.symm
   obtain ⟨⟨rb, tb, eb⟩, ra, da, na, ea⟩ := lists l d nest hd K xs (fun y hy => hx y (by simp [hy])) r1 hd1 (by omega) (by omega)
   have dm : decide (20 < d + tdeepL (x :: xs)) = decide (20 < d + tdeepL xs) := by
    rw [tdeepL]
    by_cases q : 20 < d + tdeepL xs
    ·rw [decide_eq_true q, decide_eq_true (by omega)]
    ·rw [decide_eq_false q, decide_eq_false (by omega)]
   refine ⟨⟨rb, ⟨by rw [dm, tb.deep], fun q => by rw [tb.n q, hn1, tsizeL]; omega, fun q qn => ?_⟩, fun k hk => ?_⟩, ra, by rw [dm, da], fun q => by rw [na q, hn1, tsizeL]; omega, fun k hk => ?_⟩
   ·have n2 := tb.n q
    obtain ⟨a1, a2, a3⟩ := t1.flags hd1 (by omega)
    obtain ⟨b1, b2, b3⟩ := tb.flags q qn
    rw [b1, b2, b3, a1, a2, a3, tformedL, tbadL, tlooseL]
    refine ⟨?_, by rw [Bool.or_assoc], by rw [Bool.or_assoc]⟩
    rw [Bool.or_assoc, Bool.not_and]
   ·rw [ovB, e1 k (by omega), Option.bind_some]; exact eb k hk
   ·rw [ovA, if_neg (by rw [h]; decide), e1 k (by omega), Option.bind_some]; exact ea k hk
theorem ovNm_or (l : List S56) (e : S28) (b : Bool) : ovNm l e b = (b || ovNm l e false) := by
 unfold ovNm
 by_cases h3 : e.f0 = 3
 ·simp [h3]
 ·by_cases h4 : e.f0 = 4 <;> simp [h3, h4]
theorem ovLs_or (l : List S56) (e : S28) (nest b : Bool) : ovLs l e nest b = (b || ovLs l e nest false) := by
 unfold ovLs
 by_cases h3 : e.f0 = 3 <;> simp [h3]
theorem over_told (l : List S56) : ∀ (n : Nat) (e : S28), tsize e ≤ n → n ≤ 1000000000 → ∀ (d : Nat) (nest : Bool), d ≤ 1000 → ∀ s : OvS, s.deep = false → 0 ≤ s.n → s.n + tsize e ≤ 2000000000 →
  ∃ r, Told l s r (d + tdeep e) (tsize e) (tformed e) (tbad l e) (tloose l nest e) ∧ ∀ k, 2 * n ≤ k → overF k l s e ((d + 1 : Nat) : Int) nest = some r
 | 0, e, h, _ => by rw [tsize_eq] at h; omega
 | n + 1, e, h, hn => by
  intro d nest hd s hs h0 hsn
  have hz := tsize_eq e
  have hw : wrap64 (s.n + 1) = s.n + 1 := by unfold wrap64; omega
  have hw2 : wrap64 (((d + 1 : Nat) : Int) + 1) = ((d + 1 + 1 : Nat) : Int) := by unfold wrap64; omega
  have td := tdeep_eq e
  by_cases h20 : 20 < d + 1
  ·have b : decide (20 < ((d + 1 : Nat) : Int)) = true := decide_eq_true (by omega)
   refine ⟨⟨s.n + 1, true, s.kind, s.name, s.loose⟩, ⟨(decide_eq_true (by omega)).symm, fun q => absurd (show true = false from q) (by decide), fun q => absurd (show true = false from q) (by decide)⟩, fun k hk => ?_⟩
   obtain ⟨k, rfl⟩ : ∃ m, k = m + 1 := ⟨k - 1, by omega⟩
   rw [overF, hw, b, Bool.or_true, Bool.true_or, if_pos rfl, ovA_deep _ _ _ rfl]
  ·have b : decide (20 < ((d + 1 : Nat) : Int)) = false := decide_eq_false (by omega)
   have kids : ∀ (nest' : Bool), ∀ x ∈ e.f3, ∀ s : OvS, s.deep = false → 0 ≤ s.n → s.n + tsize x ≤ 2000000000 → ∃ r, Told l s r (d + 1 + tdeep x) (tsize x) (tformed x) (tbad l x) (tloose l nest' x) ∧ ∀ k, 2 * n ≤ k → overF k l s x ((d + 1 + 1 : Nat) : Int) nest' = some r :=
    fun nest' x hx s a1 a2 a3 => over_told l n x (by have := tsize_mem hx; omega) (by omega) (d + 1) nest' (by omega) s a1 a2 a3
   have dd : d + tdeep e = d + 1 + tdeepL e.f3 := by omega
   by_cases hb : 200 < s.n + 1
   ·obtain ⟨-, r, r1, r2, r3⟩ := lists l (d + 1) nest (by omega) (2 * n) e.f3 (kids nest) ⟨s.n + 1, false, s.kind, s.name, s.loose⟩ rfl (by show 0 ≤ s.n + 1; omega) (by show s.n + 1 + _ ≤ _; omega)
    refine ⟨r, ⟨by rw [r1, dd], fun q => by rw [r2 q, hz]; show s.n + 1 + _ = _; omega, fun q qn => ?_⟩, fun k hk => ?_⟩
    ·have := r2 q
     have : r.n = s.n + 1 + (tsizeL e.f3 : Int) := this
     omega
    ·obtain ⟨k, rfl⟩ : ∃ m, k = m + 1 := ⟨k - 1, by omega⟩
     rw [overF, hw, b, hs, Bool.or_self, Bool.false_or, if_pos (decide_eq_true hb), hw2]
     exact r3 k (by omega)
   ·obtain ⟨⟨r, r1, r3⟩, -⟩ := lists l (d + 1) (nest || e.f0 == 4) (by omega) (2 * n) e.f3 (kids _) ⟨s.n + 1, false, s.kind || !shF e, ovNm l e s.name, ovLs l e nest s.loose⟩ rfl (by show 0 ≤ s.n + 1; omega) (by show s.n + 1 + _ ≤ _; omega)
    refine ⟨r, ⟨by rw [r1.deep, dd], fun q => by rw [r1.n q, hz]; show s.n + 1 + _ = _; omega, fun q qn => ?_⟩, fun k hk => ?_⟩
    ·obtain ⟨a1, a2, a3⟩ := r1.flags q qn
     have a1 : r.kind = ((s.kind || !shF e) || !tformedL e.f3) := a1
     have a2 : r.name = (ovNm l e s.name || tbadL l e.f3) := a2
     have a3 : r.loose = (ovLs l e nest s.loose || tlooseL l (nest || e.f0 == 4) e.f3) := a3
     rw [a1, a2, a3, tformed_eq, tbad_eq, tloose_eq, ovNm_or l e s.name, ovLs_or l e nest s.loose]
     exact ⟨by rw [Bool.or_assoc, Bool.not_and], by rw [Bool.or_assoc], by rw [Bool.or_assoc]⟩
    ·obtain ⟨k, rfl⟩ : ∃ m, k = m + 1 := ⟨k - 1, by omega⟩
     rw [overF, hw, b, hs, Bool.or_self, Bool.false_or, if_neg (by rw [decide_eq_false hb]; decide), hw2]
     exact r3 k (by omega)
/-- An expression's error, told of its tree. -/
def treeErr (l : List S56) (e : S28) : Int := if 20 < tdeep e then 3 else if 200 < tsize e then 2 else if tformed e = true then (if tbad l e = true then 6 else if tloose l false e = true then 8 else 0) else 7
theorem check_ev (l : List S56) (e : S28) (h : tsize e ≤ 1000000000) : Ev (fun k => checkF k l e) (treeErr l e) := by
 obtain ⟨r, t, hr⟩ := over_told l (tsize e) e (Nat.le_refl _) h 0 false (by omega) ⟨0, false, false, false, false⟩ rfl (Int.le_refl _) (by show (0 : Int) + _ ≤ _; omega)
 refine ⟨2 * tsize e, fun k hk => ?_⟩
 have h1 : overF k l ⟨0, false, false, false, false⟩ e 1 false = some r := hr k hk
 show checkF k l e = _
 unfold checkF
 rw [h1, Option.bind_some]
 congr 1
 unfold errF treeErr
 have td := t.deep
 rw [Nat.zero_add] at td
 by_cases hd : 20 < tdeep e
 ·rw [if_pos hd, td, decide_eq_true hd, if_pos rfl]
 ·rw [decide_eq_false hd] at td
  have tn := t.n td
  have tn : r.n = (0 : Int) + tsize e := tn
  rw [if_neg hd, td, if_neg (by decide)]
  by_cases hs : 200 < tsize e
  ·rw [if_pos hs, if_pos (by omega)]
  ·rw [if_neg hs, if_neg (by omega)]
   obtain ⟨a1, a2, a3⟩ := t.flags td (by omega)
   have a1 : r.kind = (false || !tformed e) := a1
   have a2 : r.name = (false || tbad l e) := a2
   have a3 : r.loose = (false || tloose l false e) := a3
   rw [a1, a2, a3, Bool.false_or, Bool.false_or, Bool.false_or]
   cases tformed e <;> cases tbad l e <;> cases tloose l false e <;> rfl
theorem rcheck_ev (l : List S56) (hl : kindsB l = true) (e : S28) (h : tsize e ≤ 1000000000) : Ev (fun k => canopyref5_Check.f k l e.f0 e.f1 e.f2 e.f3) (treeErr l e) := by
 unfold canopyref5_Check.f treeErr
 have hd := tdeep_le e
 refine Ev.bind (deep_ev _ e (Nat.le_refl _) h) ?_
 by_cases h1 : 20 < tdeep e
 ·exact Ev.congr (f := fun _ => some 3) (fun k => by rw [if_pos (by omega)]) (by rw [if_pos h1]; exact Ev.now _)
 ·rw [if_neg h1]
  refine Ev.congr (fun k => by rw [if_neg (by omega)]) ?_
  refine Ev.bind (size_ev _ e (Nat.le_refl _) h) ?_
  by_cases h2 : 200 < tsize e
  ·exact Ev.congr (f := fun _ => some 2) (fun k => by rw [if_pos (by omega)]) (by rw [if_pos h2]; exact Ev.now _)
  ·rw [if_neg h2]
   refine Ev.congr (fun k => by rw [if_neg (by omega)]) ?_
   refine Ev.bind (formed_ev _ e (Nat.le_refl _) h) ?_
   cases tformed e with
   | false => exact Ev.now _
   | true =>
    refine Ev.congr (fun k => by rw [if_pos rfl]) ?_
    rw [if_pos rfl]
    refine Ev.bind (named_ev l hl _ e (Nat.le_refl _) h) ?_
    cases hb : tbad l e with
    | true => exact Ev.now _
    | false =>
     refine Ev.congr (fun k => by rw [if_pos (by rfl)]) ?_
     rw [if_neg (by decide)]
     refine Ev.bind (loose_ev l hl _ e false hb (Nat.le_refl _) h) ?_
     cases tloose l false e with
     | true => exact Ev.now _
     | false => exact Ev.now _
end Go.Proofs.YtodbnnfiadcbaaaL
namespace Go.Proofs.Ytodbnnfiadcbaaa.P
open Go.RowKit Go.Proofs.YtodbnnfiadcbaaaW.PrintWords Go.Proofs.YtodbnnfiadcbaaaW.PrintLast Go.Proofs.YtodbnnfiadcbaaaW.PrintMore Go.Proofs.YtodbnnfiadcbaaaH
attribute [local go_sem] max2_int min2_int max_two min_two max_three min_three max_four min_four   -- for this text's walks alone
set_option linter.unusedVariables false
set_option linter.unusedSimpArgs false

/-! ### canopyref1_Sign: function 43 -/
def canopyref1_Sign.f (a0_0 : ByteArray) (a0_1 : Int) : Option (ByteArray) := if a0_1 = 1 then (if 1 + a0_0.size ≤ 9223372036854775807 then (if ((⟨#[60]⟩ : ByteArray) ++ a0_0).size + 1 ≤ 9223372036854775807 then (some (((⟨#[60]⟩ : ByteArray) ++ a0_0) ++ (⟨#[62]⟩ : ByteArray))) else (none)) else (none)) else (if a0_1 = 2 then (if 2 + a0_0.size ≤ 9223372036854775807 then (if ((⟨#[60, 47]⟩ : ByteArray) ++ a0_0).size + 1 ≤ 9223372036854775807 then (some (((⟨#[60, 47]⟩ : ByteArray) ++ a0_0) ++ (⟨#[62]⟩ : ByteArray))) else (none)) else (none)) else (some a0_0))
set_option maxHeartbeats 8000000 in
set_option maxRecDepth 100000 in
theorem canopyref1_Sign.calls (a0_0 : ByteArray) (a0_1 : Int) (r : ByteArray) (w : World) (h : canopyref1_Sign.f a0_0 a0_1 = some r) :
  Calls Try.prog 43 #[.agg #[.string a0_0, .int .i64 a0_1]] w fun e w' => e = .returned (.string r) ∧ Below w.heap.size w w' := by
 have HB := M0 (Below.refl w.heap.size w)
 have H : (if a0_1 = 1 then (if 1 + a0_0.size ≤ 9223372036854775807 then (if ((⟨#[60]⟩ : ByteArray) ++ a0_0).size + 1 ≤ 9223372036854775807 then (some (((⟨#[60]⟩ : ByteArray) ++ a0_0) ++ (⟨#[62]⟩ : ByteArray))) else (none)) else (none)) else (if a0_1 = 2 then (if 2 + a0_0.size ≤ 9223372036854775807 then (if ((⟨#[60, 47]⟩ : ByteArray) ++ a0_0).size + 1 ≤ 9223372036854775807 then (some (((⟨#[60, 47]⟩ : ByteArray) ++ a0_0) ++ (⟨#[62]⟩ : ByteArray))) else (none)) else (none)) else (some a0_0))) = some r := h
 clear h
 by_cases c2 : a0_1 = 1
 ·rw [if_pos c2] at H
  have c2b0 := bT c2
  have c2b1 := nF c2
  clear c2
  by_cases c3 : 1 + a0_0.size ≤ 9223372036854775807
  ·rw [if_pos c3] at H
   have c3b0 := eq_true c3
   have c3b1 := decide_eq_true c3
   have c3b2 : (9223372036854775807 < 1 + a0_0.size) = False := eq_false (Nat.not_lt.2 c3)
   by_cases c4 : ((⟨#[60]⟩ : ByteArray) ++ a0_0).size + 1 ≤ 9223372036854775807
   ·rw [if_pos c4] at H
    have c4b3 : (9223372036854775807 < 1 + a0_0.size + 1) = False := eq_false (by have z_ := c4; (simp only [ByteArray.size_append] at z_ ⊢); simp only [Nat.not_lt]; exact z_)
    obtain rfl := Option.some.inj H
    go_enter Try.func43, Try.ntmps43
    go_wp2_with (((with_reducible refine gate_dst (N := 1) rfl ?_); refine box_event ?hg (N := 1) ?hd (cs := #[.string a0_0, .int .i64 a0_1]) (t := 56) ?hr ?_; (case hd => rfl); (case hg => rfl); (case hr => (go_simp; done)); intro gb845 hg w5 hbox hb; have BK845 := M0 hbox; replace HB := M0 (below_step HB.out hb); clear hb hbox hg; obtain ⟨_, _, _, _⟩ := cells2 BK845.out))
    go_ret
    exact ⟨by rfl, by with_reducible exact HB.out⟩
   ·rw [if_neg c4] at H
    exact absurd H (by simp)
  ·rw [if_neg c3] at H
   exact absurd H (by simp)
 ·rw [if_neg c2] at H
  have c2b0 := bF c2
  have c2b1 := nT c2
  by_cases c7 : a0_1 = 2
  ·rw [if_pos c7] at H
   have c7b0 := bT c7
   have c7b1 := nF c7
   clear c7
   by_cases c8 : 2 + a0_0.size ≤ 9223372036854775807
   ·rw [if_pos c8] at H
    have c8b0 := eq_true c8
    have c8b1 := decide_eq_true c8
    have c8b2 : (9223372036854775807 < 2 + a0_0.size) = False := eq_false (Nat.not_lt.2 c8)
    by_cases c9 : ((⟨#[60, 47]⟩ : ByteArray) ++ a0_0).size + 1 ≤ 9223372036854775807
    ·rw [if_pos c9] at H
     have c9b3 : (9223372036854775807 < 2 + a0_0.size + 1) = False := eq_false (by have z_ := c9; (simp only [ByteArray.size_append] at z_ ⊢); simp only [Nat.not_lt]; exact z_)
     obtain rfl := Option.some.inj H
     go_enter Try.func43, Try.ntmps43
     go_wp2_with (((with_reducible refine gate_dst (N := 1) rfl ?_); refine box_event ?hg (N := 1) ?hd (cs := #[.string a0_0, .int .i64 a0_1]) (t := 56) ?hr ?_; (case hd => rfl); (case hg => rfl); (case hr => (go_simp; done)); intro gb845 hg w10 hbox hb; have BK845 := M0 hbox; replace HB := M0 (below_step HB.out hb); clear hb hbox hg; obtain ⟨_, _, _, _⟩ := cells2 BK845.out))
     go_ret
     exact ⟨by rfl, by with_reducible exact HB.out⟩
    ·rw [if_neg c9] at H
     exact absurd H (by simp)
   ·rw [if_neg c8] at H
    exact absurd H (by simp)
  ·rw [if_neg c7] at H
   have c7b0 := bF c7
   obtain rfl := Option.some.inj H
   go_enter Try.func43, Try.ntmps43
   go_wp2_with (((with_reducible refine gate_dst (N := 1) rfl ?_); refine box_event ?hg (N := 1) ?hd (cs := #[.string a0_0, .int .i64 a0_1]) (t := 56) ?hr ?_; (case hd => rfl); (case hg => rfl); (case hr => (go_simp; done)); intro gb845 hg w12 hbox hb; have BK845 := M0 hbox; replace HB := M0 (below_step HB.out hb); clear hb hbox hg; obtain ⟨_, _, _, _⟩ := cells2 BK845.out))
   go_ret
   exact ⟨by rfl, by with_reducible exact HB.out⟩

/-! ### canopyref5_Text: functions 44, 20, that call each other -/
mutual
def canopyref5_held.j0 : Nat → List (S56) → Bool → Int → Int → Int → List (S28) → Option (ByteArray)
 | 0, _, _, _, _, _, _ => none
 | k + 1, x0, x17, x847000, x847001, x847002, x847003 => if x17 = true then ((canopyref5_Text.f k x0 x847000 x847001 x847002 x847003).bind fun t847 => (if 2 + t847.size ≤ 9223372036854775807 then (if ((⟨#[40, 32]⟩ : ByteArray) ++ t847).size + 2 ≤ 9223372036854775807 then (some (((⟨#[40, 32]⟩ : ByteArray) ++ t847) ++ (⟨#[32, 41]⟩ : ByteArray))) else (none)) else (none))) else ((canopyref5_Text.f k x0 x847000 x847001 x847002 x847003).bind fun t848 => (some t848))
def canopyref5_held.f : Nat → List (S56) → Int → Int → Int → List (S28) → Bool → Option (ByteArray)
 | 0, _, _, _, _, _, _ => none
 | k + 1, l0, a1_0, a1_1, a1_2, l1_3, a2 => if a1_0 = 6 then (canopyref5_held.j0 k l0 true a1_0 a1_1 a1_2 l1_3) else (if a2 = true then (canopyref5_held.j0 k l0 (a1_0 == 5) a1_0 a1_1 a1_2 l1_3) else (canopyref5_held.j0 k l0 false a1_0 a1_1 a1_2 l1_3))
def canopyref5_Text.l0 : Nat → List (S56) → ByteArray → Int → Int → Int → Int → List (S28) → Option (ByteArray)
 | 0, _, _, _, _, _, _, _ => none
 | k + 1, x0, x5, x6, x850000, x850001, x850002, x850003 => if x6 < (x850003.length : Int) then (if x6 > 0 then (if x5.size + 1 ≤ 9223372036854775807 then (if 0 ≤ x6 then ((canopyref5_held.f k x0 ((rd_T28 x850003 x6).f0) ((rd_T28 x850003 x6).f1) ((rd_T28 x850003 x6).f2) ((rd_T28 x850003 x6).f3) true).bind fun t859 => (if (x5 ++ (⟨#[32]⟩ : ByteArray)).size + t859.size ≤ 9223372036854775807 then (canopyref5_Text.l0 k x0 ((x5 ++ (⟨#[32]⟩ : ByteArray)) ++ t859) (wrap64 (x6 + 1)) x850000 x850001 x850002 x850003) else (none))) else (none)) else (none)) else (if 0 ≤ x6 then ((canopyref5_held.f k x0 ((rd_T28 x850003 x6).f0) ((rd_T28 x850003 x6).f1) ((rd_T28 x850003 x6).f2) ((rd_T28 x850003 x6).f3) true).bind fun t861 => (if x5.size + t861.size ≤ 9223372036854775807 then (canopyref5_Text.l0 k x0 (x5 ++ t861) (wrap64 (x6 + 1)) x850000 x850001 x850002 x850003) else (none))) else (none))) else (some x5)
def canopyref5_Text.l1 : Nat → List (S56) → ByteArray → Int → Int → Int → Int → List (S28) → Option (ByteArray)
 | 0, _, _, _, _, _, _, _ => none
 | k + 1, x0, x5, x7, x850000, x850001, x850002, x850003 => if x7 < (x850003.length : Int) then (if x7 > 0 then (if x5.size + 3 ≤ 9223372036854775807 then (if 0 ≤ x7 then ((canopyref5_held.f k x0 ((rd_T28 x850003 x7).f0) ((rd_T28 x850003 x7).f1) ((rd_T28 x850003 x7).f2) ((rd_T28 x850003 x7).f3) false).bind fun t863 => (if (x5 ++ (⟨#[32, 124, 32]⟩ : ByteArray)).size + t863.size ≤ 9223372036854775807 then (canopyref5_Text.l1 k x0 ((x5 ++ (⟨#[32, 124, 32]⟩ : ByteArray)) ++ t863) (wrap64 (x7 + 1)) x850000 x850001 x850002 x850003) else (none))) else (none)) else (none)) else (if 0 ≤ x7 then ((canopyref5_held.f k x0 ((rd_T28 x850003 x7).f0) ((rd_T28 x850003 x7).f1) ((rd_T28 x850003 x7).f2) ((rd_T28 x850003 x7).f3) false).bind fun t865 => (if x5.size + t865.size ≤ 9223372036854775807 then (canopyref5_Text.l1 k x0 (x5 ++ t865) (wrap64 (x7 + 1)) x850000 x850001 x850002 x850003) else (none))) else (none))) else (some x5)
def canopyref5_Text.f : Nat → List (S56) → Int → Int → Int → List (S28) → Option (ByteArray)
 | 0, _, _, _, _, _ => none
 | k + 1, l0, a1_0, a1_1, a1_2, l1_3 => if a1_0 = 1 then (some (⟨#[48]⟩ : ByteArray)) else (if a1_0 = 2 then (some (⟨#[49]⟩ : ByteArray)) else (if a1_0 = 3 then (if 0 ≤ a1_1 then (if a1_1 < (l0.length : Int) then ((canopyref1_Sign.f ((rd_T56 l0 a1_1).f0) ((rd_T56 l0 a1_1).f1)).bind fun t851 => (some t851)) else (none)) else (none)) else (if a1_0 = 4 then (if 0 ≤ a1_1 then (if a1_1 < (l0.length : Int) then (if 1 + ((rd_T56 l0 a1_1).f0).size ≤ 9223372036854775807 then (if ((⟨#[60]⟩ : ByteArray) ++ ((rd_T56 l0 a1_1).f0)).size + 2 ≤ 9223372036854775807 then (if 0 < (l1_3.length : Int) then ((canopyref5_Text.f k l0 ((rd_T28 l1_3 0).f0) ((rd_T28 l1_3 0).f1) ((rd_T28 l1_3 0).f2) ((rd_T28 l1_3 0).f3)).bind fun t854 => (if (((⟨#[60]⟩ : ByteArray) ++ ((rd_T56 l0 a1_1).f0)) ++ (⟨#[91, 32]⟩ : ByteArray)).size + t854.size ≤ 9223372036854775807 then (if ((((⟨#[60]⟩ : ByteArray) ++ ((rd_T56 l0 a1_1).f0)) ++ (⟨#[91, 32]⟩ : ByteArray)) ++ t854).size + 2 ≤ 9223372036854775807 then (if 0 ≤ a1_2 then (if a1_2 < (l0.length : Int) then (if (((((⟨#[60]⟩ : ByteArray) ++ ((rd_T56 l0 a1_1).f0)) ++ (⟨#[91, 32]⟩ : ByteArray)) ++ t854) ++ (⟨#[32, 93]⟩ : ByteArray)).size + ((rd_T56 l0 a1_2).f0).size ≤ 9223372036854775807 then (if ((((((⟨#[60]⟩ : ByteArray) ++ ((rd_T56 l0 a1_1).f0)) ++ (⟨#[91, 32]⟩ : ByteArray)) ++ t854) ++ (⟨#[32, 93]⟩ : ByteArray)) ++ ((rd_T56 l0 a1_2).f0)).size + 1 ≤ 9223372036854775807 then (some (((((((⟨#[60]⟩ : ByteArray) ++ ((rd_T56 l0 a1_1).f0)) ++ (⟨#[91, 32]⟩ : ByteArray)) ++ t854) ++ (⟨#[32, 93]⟩ : ByteArray)) ++ ((rd_T56 l0 a1_2).f0)) ++ (⟨#[62]⟩ : ByteArray))) else (none)) else (none)) else (none)) else (none)) else (none)) else (none))) else (none)) else (none)) else (none)) else (none)) else (none)) else (if a1_0 = 7 then (if 0 < (l1_3.length : Int) then ((canopyref5_held.f k l0 ((rd_T28 l1_3 0).f0) ((rd_T28 l1_3 0).f1) ((rd_T28 l1_3 0).f2) ((rd_T28 l1_3 0).f3) true).bind fun t857 => (if t857.size + 1 ≤ 9223372036854775807 then (some (t857 ++ (⟨#[42]⟩ : ByteArray))) else (none))) else (none)) else (if a1_0 = 5 then (canopyref5_Text.l0 k l0 (⟨#[]⟩ : ByteArray) 0 a1_0 a1_1 a1_2 l1_3) else (canopyref5_Text.l1 k l0 (⟨#[]⟩ : ByteArray) 0 a1_0 a1_1 a1_2 l1_3))))))
end
set_option maxHeartbeats 4000000 in
theorem canopyref5_Text.mono_g : ∀ k, (∀ y0 y1 y2 y3 y4 y5, LeO (canopyref5_held.f k y0 y1 y2 y3 y4 y5) (canopyref5_held.f (k + 1) y0 y1 y2 y3 y4 y5)) ∧ (∀ y0 y1 y2 y3 y4 y5, LeO (canopyref5_held.j0 k y0 y1 y2 y3 y4 y5) (canopyref5_held.j0 (k + 1) y0 y1 y2 y3 y4 y5)) ∧ (∀ y0 y1 y2 y3 y4, LeO (canopyref5_Text.f k y0 y1 y2 y3 y4) (canopyref5_Text.f (k + 1) y0 y1 y2 y3 y4)) ∧ (∀ y0 y1 y2 y3 y4 y5 y6, LeO (canopyref5_Text.l0 k y0 y1 y2 y3 y4 y5 y6) (canopyref5_Text.l0 (k + 1) y0 y1 y2 y3 y4 y5 y6)) ∧ (∀ y0 y1 y2 y3 y4 y5 y6, LeO (canopyref5_Text.l1 k y0 y1 y2 y3 y4 y5 y6) (canopyref5_Text.l1 (k + 1) y0 y1 y2 y3 y4 y5 y6))
 | 0 => ⟨fun _ _ _ _ _ _ r h => by simp [canopyref5_held.f] at h, fun _ _ _ _ _ _ r h => by simp [canopyref5_held.j0] at h, fun _ _ _ _ _ r h => by simp [canopyref5_Text.f] at h, fun _ _ _ _ _ _ _ r h => by simp [canopyref5_Text.l0] at h, fun _ _ _ _ _ _ _ r h => by simp [canopyref5_Text.l1] at h⟩
 | k + 1 => by
  obtain ⟨ih0, ih1, ih2, ih3, ih4⟩ := canopyref5_Text.mono_g k
  refine ⟨?_, ?_, ?_, ?_, ?_⟩
  ·intro y0 y1 y2 y3 y4 y5
   unfold canopyref5_held.f
   repeat' first
   | (with_reducible exact ih1 _ _ _ _ _ _)
   | (with_reducible refine LeO.ite ?_ ?_)
  ·intro y0 y1 y2 y3 y4 y5
   unfold canopyref5_held.j0
   repeat' first
   | (with_reducible exact ih2 _ _ _ _ _)
   | (with_reducible exact LeO.refl _)
   | (with_reducible refine LeO.ite ?_ ?_)
   | (with_reducible refine LeO.bind ?_ (fun _ => ?_))
  ·intro y0 y1 y2 y3 y4
   unfold canopyref5_Text.f
   repeat' first
   | (with_reducible exact ih0 _ _ _ _ _ _)
   | (with_reducible exact ih2 _ _ _ _ _)
   | (with_reducible exact ih3 _ _ _ _ _ _ _)
   | (with_reducible exact ih4 _ _ _ _ _ _ _)
   | (with_reducible exact LeO.refl _)
   | (with_reducible refine LeO.ite ?_ ?_)
   | (with_reducible refine LeO.bind ?_ (fun _ => ?_))
  ·intro y0 y1 y2 y3 y4 y5 y6
   unfold canopyref5_Text.l0
   repeat' first
   | (with_reducible exact ih0 _ _ _ _ _ _)
   | (with_reducible exact ih3 _ _ _ _ _ _ _)
   | (with_reducible exact LeO.refl _)
   | (with_reducible refine LeO.ite ?_ ?_)
   | (with_reducible refine LeO.bind ?_ (fun _ => ?_))
  ·intro y0 y1 y2 y3 y4 y5 y6
   unfold canopyref5_Text.l1
   repeat' first
   | (with_reducible exact ih0 _ _ _ _ _ _)
   | (with_reducible exact ih4 _ _ _ _ _ _ _)
   | (with_reducible exact LeO.refl _)
   | (with_reducible refine LeO.ite ?_ ?_)
   | (with_reducible refine LeO.bind ?_ (fun _ => ?_))
theorem canopyref5_held.mono : ∀ a0 a1 a2 a3 a4 a5 k, LeO (canopyref5_held.f k a0 a1 a2 a3 a4 a5) (canopyref5_held.f (k + 1) a0 a1 a2 a3 a4 a5) := by
 intro a0 a1 a2 a3 a4 a5 k
 obtain ⟨ih0, ih1, ih2, ih3, ih4⟩ := canopyref5_Text.mono_g k
 exact ih0 a0 a1 a2 a3 a4 a5
theorem canopyref5_Text.mono : ∀ a0 a1 a2 a3 a4 k, LeO (canopyref5_Text.f k a0 a1 a2 a3 a4) (canopyref5_Text.f (k + 1) a0 a1 a2 a3 a4) := by
 intro a0 a1 a2 a3 a4 k
 obtain ⟨ih0, ih1, ih2, ih3, ih4⟩ := canopyref5_Text.mono_g k
 exact ih2 a0 a1 a2 a3 a4

abbrev canopyref5_held.S (k : Nat) : Prop := ∀ (A0 : Option Addr) (c0 : Nat) (l0 : List (S56)) (a1_0 : Int) (a1_1 : Int) (a1_2 : Int) (A1_3 : Option Addr) (c1_3 : Nat) (l1_3 : List (S28)) (a2 : Bool) (r : ByteArray) (w : World) (hr0 : Kd.C k56 w A0 l0.length l0) (hc0 : l0.length ≤ c0) (hr1_3 : Kd.C k28 w A1_3 l1_3.length l1_3) (hc1_3 : l1_3.length ≤ c1_3) (h : canopyref5_held.f k l0 a1_0 a1_1 a1_2 l1_3 a2 = some r),
  Calls Try.prog 44 #[.slice A0 l0.length c0, .agg #[.int .i64 a1_0, .int .i64 a1_1, .int .i64 a1_2, .slice A1_3 l1_3.length c1_3], .bool a2] w fun e w' => e = .returned (.string r) ∧ Below w.heap.size w w'
abbrev canopyref5_Text.S (k : Nat) : Prop := ∀ (A0 : Option Addr) (c0 : Nat) (l0 : List (S56)) (a1_0 : Int) (a1_1 : Int) (a1_2 : Int) (A1_3 : Option Addr) (c1_3 : Nat) (l1_3 : List (S28)) (r : ByteArray) (w : World) (hr0 : Kd.C k56 w A0 l0.length l0) (hc0 : l0.length ≤ c0) (hr1_3 : Kd.C k28 w A1_3 l1_3.length l1_3) (hc1_3 : l1_3.length ≤ c1_3) (h : canopyref5_Text.f k l0 a1_0 a1_1 a1_2 l1_3 = some r),
  Calls Try.prog 20 #[.slice A0 l0.length c0, .agg #[.int .i64 a1_0, .int .i64 a1_1, .int .i64 a1_2, .slice A1_3 l1_3.length c1_3]] w fun e w' => e = .returned (.string r) ∧ Below w.heap.size w w'

/-! ### canopyref5_held: function 44 -/
set_option maxHeartbeats 8000000 in
set_option maxRecDepth 100000 in
theorem canopyref5_held.step (k : Nat) (ih20 : ∀ m, m < k → canopyref5_Text.S m) (ih44 : ∀ m, m < k → canopyref5_held.S m) : ∀ (A0 : Option Addr) (c0 : Nat) (l0 : List (S56)) (a1_0 : Int) (a1_1 : Int) (a1_2 : Int) (A1_3 : Option Addr) (c1_3 : Nat) (l1_3 : List (S28)) (a2 : Bool) (r : ByteArray) (w : World) (hr0 : Kd.C k56 w A0 l0.length l0) (hc0 : l0.length ≤ c0) (hr1_3 : Kd.C k28 w A1_3 l1_3.length l1_3) (hc1_3 : l1_3.length ≤ c1_3) (h : canopyref5_held.f k l0 a1_0 a1_1 a1_2 l1_3 a2 = some r),
  Calls Try.prog 44 #[.slice A0 l0.length c0, .agg #[.int .i64 a1_0, .int .i64 a1_1, .int .i64 a1_2, .slice A1_3 l1_3.length c1_3], .bool a2] w fun e w' => e = .returned (.string r) ∧ Below w.heap.size w w' := by
 intro A0 c0 l0 a1_0 a1_1 a1_2 A1_3 c1_3 l1_3 a2 r w hr0 hc0 hr1_3 hc1_3 h
 cases k with
 | zero => exact absurd h (by simp [canopyref5_held.f])
 | succ k =>
 simp only [canopyref5_held.f] at h
 have HR0 := M0 hr0
 have HC0 := M0 hc0
 clear hr0 hc0
 have HR1_3 := M0 hr1_3
 have HC1_3 := M0 hc1_3
 clear hr1_3 hc1_3
 have HB := M0 (Below.refl w.heap.size w)
 have H : (if a1_0 = 6 then (canopyref5_held.j0 k l0 true a1_0 a1_1 a1_2 l1_3) else (if a2 = true then (canopyref5_held.j0 k l0 (a1_0 == 5) a1_0 a1_1 a1_2 l1_3) else (canopyref5_held.j0 k l0 false a1_0 a1_1 a1_2 l1_3))) = some r := h
 clear h
 have HC4 := M0 H
 clear H
 go_enter Try.func44, Try.ntmps44
 go_upto_region 1 with (((with_reducible refine gate_dst (N := 4) rfl ?_); refine box_event ?hg (N := 4) ?hd (cs := #[.int .i64 a1_0, .int .i64 a1_1, .int .i64 a1_2, .slice A1_3 l1_3.length c1_3]) (t := 28) ?hr ?_; (case hd => rfl); (case hg => rfl); (case hr => (go_simp; done)); intro gb846 hg w5 hbox hb; have BK846 := M0 hbox; replace HB := M0 (below_step HB.out hb); clear hb hbox hg))
 (skip)
 go_cut [17] (fun v17 wc => ∃ (kq : Nat) (x17_3 : Bool), v17 = .bool x17_3 ∧ Aside0 (canopyref5_held.j0 kq l0 x17_3 a1_0 a1_1 a1_2 l1_3 = some r) ∧ Aside0 (kq ≤ k) ∧ Aside0 (wc.heap[gb846]? = some (.cells #[.int .i64 a1_0, .int .i64 a1_1, .int .i64 a1_2, (.slice A1_3 l1_3.length c1_3)] 28 (0, 0))) ∧ Aside0 (Below w.heap.size w wc))
 case first =>
  have H := HC4.out
  clear HC4
  by_cases c6 : a1_0 = 6
  ·rw [if_pos c6] at H
   have c6b0 := bT c6
   clear c6
   (skip)
   have H' := M0 H
   clear H
   obtain ⟨_, _, _, _, _, _, _, _⟩ := cells4 BK846.out
   go_wp2
   go_meet
   case rel => exact ⟨_, (true), (by rfl), H', ⟨by omega⟩, ⟨by exact BK846.out⟩, ⟨by with_reducible exact HB.out⟩⟩
  ·rw [if_neg c6] at H
   have c6b0 := bF c6
   (skip)
   by_cases c8 : a2 = true
   ·subst c8
    rw [if_pos rfl] at H
    have H' := M0 H
    clear H
    obtain ⟨_, _, _, _, _, _, _, _⟩ := cells4 BK846.out
    go_wp2
    go_meet
    case rel => exact ⟨_, ((a1_0 == 5)), (by rfl), H', ⟨by omega⟩, ⟨by exact BK846.out⟩, ⟨by with_reducible exact HB.out⟩⟩
   ·replace c8 := Bool.eq_false_iff.mpr c8
    subst c8
    rw [if_neg (show ¬ (false = true) by decide)] at H
    have H' := M0 H
    clear H
    obtain ⟨_, _, _, _, _, _, _, _⟩ := cells4 BK846.out
    go_wp2
    go_meet
    case rel => exact ⟨_, (false), (by rfl), H', ⟨by omega⟩, ⟨by exact BK846.out⟩, ⟨by with_reducible exact HB.out⟩⟩
 case rest =>
  clear HC4
  obtain ⟨kq, x17_3, rfl, HA, HJ3, BK846, HB⟩ := hcut
  cases kq with
  | zero => exact absurd HA.out (by simp [canopyref5_held.j0])
  | succ kj3 =>
   have H := HA.out
   clear HA
   simp only [canopyref5_held.j0] at H
   by_cases c11 : x17_3 = true
   ·subst c11
    rw [if_pos rfl] at H
    replace H := Option.bind_eq_some_iff.mp H
    obtain ⟨t847, A120, H⟩ := H
    try dsimp only at H
    have A12 := M0 A120
    clear A120
    by_cases c13 : 2 + t847.size ≤ 9223372036854775807
    ·rw [if_pos c13] at H
     have c13b0 := eq_true c13
     have c13b1 := decide_eq_true c13
     have c13b2 : (9223372036854775807 < 2 + t847.size) = False := eq_false (Nat.not_lt.2 c13)
     by_cases c14 : ((⟨#[40, 32]⟩ : ByteArray) ++ t847).size + 2 ≤ 9223372036854775807
     ·rw [if_pos c14] at H
      have c14b3 : (9223372036854775807 < 2 + t847.size + 2) = False := eq_false (by have z_ := c14; (simp only [ByteArray.size_append] at z_ ⊢); simp only [Nat.not_lt]; exact z_)
      obtain rfl := Option.some.inj H
      obtain ⟨_, _, _, _, _, _, _, _⟩ := cells4 BK846.out
      go_wp2_with (((with_reducible refine gate_callee (f := 20) rfl ?_); refine goesL_ (some 20) rfl rfl Try.func20 (by kernel_rfl) rfl #[.slice A0 l0.length c0, .agg #[.int .i64 a1_0, .int .i64 a1_1, .int .i64 a1_2, .slice A1_3 l1_3.length c1_3]] rfl (by (simp only [List.map_toArray, List.map_cons, List.map_nil]); rfl) ?_; (with_reducible refine (ih20 kj3 (by have := HJ3.out; omega) _ _ l0 a1_0 a1_1 a1_2 _ _ l1_3 t847 _ ?side1 ?side2 ?side3 ?side4 A12.out).mono ?_); (case side1 => repeat (exact (Kd.C_below HR0.out HB.out))); (case side2 => exact HC0.out); (case side3 => repeat (exact (Kd.C_below HR1_3.out HB.out))); (case side4 => exact HC1_3.out); rintro e w16 ⟨rfl, hb⟩; refine ⟨_, rfl, ?_⟩; clear BK846; replace HB := M0 (below_step HB.out hb); clear hb))
      go_ret
      exact ⟨by rfl, by with_reducible exact HB.out⟩
     ·rw [if_neg c14] at H
      exact absurd H (by simp)
    ·rw [if_neg c13] at H
     exact absurd H (by simp)
   ·replace c11 := Bool.eq_false_iff.mpr c11
    subst c11
    rw [if_neg (show ¬ (false = true) by decide)] at H
    replace H := Option.bind_eq_some_iff.mp H
    obtain ⟨t848, A170, H⟩ := H
    try dsimp only at H
    have A17 := M0 A170
    clear A170
    obtain rfl := Option.some.inj H
    obtain ⟨_, _, _, _, _, _, _, _⟩ := cells4 BK846.out
    go_wp2_with (((with_reducible refine gate_callee (f := 20) rfl ?_); refine goesL_ (some 25) rfl rfl Try.func20 (by kernel_rfl) rfl #[.slice A0 l0.length c0, .agg #[.int .i64 a1_0, .int .i64 a1_1, .int .i64 a1_2, .slice A1_3 l1_3.length c1_3]] rfl (by (simp only [List.map_toArray, List.map_cons, List.map_nil]); rfl) ?_; (with_reducible refine (ih20 kj3 (by have := HJ3.out; omega) _ _ l0 a1_0 a1_1 a1_2 _ _ l1_3 t848 _ ?side1 ?side2 ?side3 ?side4 A17.out).mono ?_); (case side1 => repeat (exact (Kd.C_below HR0.out HB.out))); (case side2 => exact HC0.out); (case side3 => repeat (exact (Kd.C_below HR1_3.out HB.out))); (case side4 => exact HC1_3.out); rintro e w19 ⟨rfl, hb⟩; refine ⟨_, rfl, ?_⟩; clear BK846; replace HB := M0 (below_step HB.out hb); clear hb))
    go_ret
    exact ⟨by rfl, by with_reducible exact HB.out⟩

/-! ### canopyref5_Text: function 20 -/
def canopyref5_Text.T10 : Bool × List (List Nat × List Nat) := (true, [([], []), ([], []), ([1], [1]), ([0, 2], [0, 2]), ([3], [3]), ([4], [4]), ([5], [5]), ([6], [6]), ([], []), ([], []), ([9], [9]), ([10], [10]), ([11], [11]), ([8, 12], [8, 12]), ([7, 13], [7, 13]), ([14], [14]), ([], []), ([], []), ([17], [17]), ([16, 18], [16, 18]), ([19], [19]), ([20], [20]), ([15, 21], [15, 21]), ([22], [22]), ([23, 13, 0, 1, 2, 3, 4, 5, 6, 7, 8, 9, 10, 11, 12, 13, 14, 15, 16, 17, 18, 19, 20, 21, 22, 23], [23])])
def canopyref5_Text.B10 : List Nat := [0, 0, 2, 7, 15, 31, 63, 127, 0, 0, 512, 1536, 3584, 7936, 16383, 32767, 0, 0, 131072, 458752, 983040, 2031616, 4194303, 8388607, 16777215]
theorem canopyref5_Text.tab10 : rtab .any (opsOf Try.f20 10) = canopyref5_Text.T10 := by kernel_rfl
theorem canopyref5_Text.bits10 : waitsOk canopyref5_Text.T10.2 canopyref5_Text.B10 = true := by kernel_rfl
set_option maxHeartbeats 8000000 in
set_option maxRecDepth 100000 in
theorem canopyref5_Text.step (k : Nat) (ih20 : ∀ m, m < k → canopyref5_Text.S m) (ih44 : ∀ m, m < k → canopyref5_held.S m) : ∀ (A0 : Option Addr) (c0 : Nat) (l0 : List (S56)) (a1_0 : Int) (a1_1 : Int) (a1_2 : Int) (A1_3 : Option Addr) (c1_3 : Nat) (l1_3 : List (S28)) (r : ByteArray) (w : World) (hr0 : Kd.C k56 w A0 l0.length l0) (hc0 : l0.length ≤ c0) (hr1_3 : Kd.C k28 w A1_3 l1_3.length l1_3) (hc1_3 : l1_3.length ≤ c1_3) (h : canopyref5_Text.f k l0 a1_0 a1_1 a1_2 l1_3 = some r),
  Calls Try.prog 20 #[.slice A0 l0.length c0, .agg #[.int .i64 a1_0, .int .i64 a1_1, .int .i64 a1_2, .slice A1_3 l1_3.length c1_3]] w fun e w' => e = .returned (.string r) ∧ Below w.heap.size w w' := by
 intro A0 c0 l0 a1_0 a1_1 a1_2 A1_3 c1_3 l1_3 r w hr0 hc0 hr1_3 hc1_3 h
 cases k with
 | zero => exact absurd h (by simp [canopyref5_Text.f])
 | succ k =>
 simp only [canopyref5_Text.f] at h
 have HR0 := M0 hr0
 have HC0 := M0 hc0
 clear hr0 hc0
 have HR1_3 := M0 hr1_3
 clear hr1_3 hc1_3
 have HB := M0 (Below.refl w.heap.size w)
 have H : (if a1_0 = 1 then (some (⟨#[48]⟩ : ByteArray)) else (if a1_0 = 2 then (some (⟨#[49]⟩ : ByteArray)) else (if a1_0 = 3 then (if 0 ≤ a1_1 then (if a1_1 < (l0.length : Int) then ((canopyref1_Sign.f ((rd_T56 l0 a1_1).f0) ((rd_T56 l0 a1_1).f1)).bind fun t851 => (some t851)) else (none)) else (none)) else (if a1_0 = 4 then (if 0 ≤ a1_1 then (if a1_1 < (l0.length : Int) then (if 1 + ((rd_T56 l0 a1_1).f0).size ≤ 9223372036854775807 then (if ((⟨#[60]⟩ : ByteArray) ++ ((rd_T56 l0 a1_1).f0)).size + 2 ≤ 9223372036854775807 then (if 0 < (l1_3.length : Int) then ((canopyref5_Text.f k l0 ((rd_T28 l1_3 0).f0) ((rd_T28 l1_3 0).f1) ((rd_T28 l1_3 0).f2) ((rd_T28 l1_3 0).f3)).bind fun t854 => (if (((⟨#[60]⟩ : ByteArray) ++ ((rd_T56 l0 a1_1).f0)) ++ (⟨#[91, 32]⟩ : ByteArray)).size + t854.size ≤ 9223372036854775807 then (if ((((⟨#[60]⟩ : ByteArray) ++ ((rd_T56 l0 a1_1).f0)) ++ (⟨#[91, 32]⟩ : ByteArray)) ++ t854).size + 2 ≤ 9223372036854775807 then (if 0 ≤ a1_2 then (if a1_2 < (l0.length : Int) then (if (((((⟨#[60]⟩ : ByteArray) ++ ((rd_T56 l0 a1_1).f0)) ++ (⟨#[91, 32]⟩ : ByteArray)) ++ t854) ++ (⟨#[32, 93]⟩ : ByteArray)).size + ((rd_T56 l0 a1_2).f0).size ≤ 9223372036854775807 then (if ((((((⟨#[60]⟩ : ByteArray) ++ ((rd_T56 l0 a1_1).f0)) ++ (⟨#[91, 32]⟩ : ByteArray)) ++ t854) ++ (⟨#[32, 93]⟩ : ByteArray)) ++ ((rd_T56 l0 a1_2).f0)).size + 1 ≤ 9223372036854775807 then (some (((((((⟨#[60]⟩ : ByteArray) ++ ((rd_T56 l0 a1_1).f0)) ++ (⟨#[91, 32]⟩ : ByteArray)) ++ t854) ++ (⟨#[32, 93]⟩ : ByteArray)) ++ ((rd_T56 l0 a1_2).f0)) ++ (⟨#[62]⟩ : ByteArray))) else (none)) else (none)) else (none)) else (none)) else (none)) else (none))) else (none)) else (none)) else (none)) else (none)) else (none)) else (if a1_0 = 7 then (if 0 < (l1_3.length : Int) then ((canopyref5_held.f k l0 ((rd_T28 l1_3 0).f0) ((rd_T28 l1_3 0).f1) ((rd_T28 l1_3 0).f2) ((rd_T28 l1_3 0).f3) true).bind fun t857 => (if t857.size + 1 ≤ 9223372036854775807 then (some (t857 ++ (⟨#[42]⟩ : ByteArray))) else (none))) else (none)) else (if a1_0 = 5 then (canopyref5_Text.l0 k l0 (⟨#[]⟩ : ByteArray) 0 a1_0 a1_1 a1_2 l1_3) else (canopyref5_Text.l1 k l0 (⟨#[]⟩ : ByteArray) 0 a1_0 a1_1 a1_2 l1_3))))))) = some r := h
 clear h
 by_cases c3 : a1_0 = 1
 ·rw [if_pos c3] at H
  have c3b0 := bT c3
  clear c3
  obtain rfl := Option.some.inj H
  go_enter Try.func20, Try.ntmps20
  go_wp2_with (((with_reducible refine gate_dst (N := 3) rfl ?_); refine box_event ?hg (N := 3) ?hd (cs := #[.int .i64 a1_0, .int .i64 a1_1, .int .i64 a1_2, .slice A1_3 l1_3.length c1_3]) (t := 28) ?hr ?_; (case hd => rfl); (case hg => rfl); (case hr => (go_simp; done)); intro gb849 hg w4 hbox hb; have BK849 := M0 hbox; replace HB := M0 (below_step HB.out hb); clear hb hbox hg; obtain ⟨_, _, _, _, _, _, _, _⟩ := cells4 BK849.out))
  go_ret
  exact ⟨by rfl, by with_reducible exact HB.out⟩
 ·rw [if_neg c3] at H
  have c3b0 := bF c3
  have c3b1 := nT c3
  by_cases c6 : a1_0 = 2
  ·rw [if_pos c6] at H
   have c6b0 := bT c6
   clear c6
   obtain rfl := Option.some.inj H
   go_enter Try.func20, Try.ntmps20
   go_wp2_with (((with_reducible refine gate_dst (N := 3) rfl ?_); refine box_event ?hg (N := 3) ?hd (cs := #[.int .i64 a1_0, .int .i64 a1_1, .int .i64 a1_2, .slice A1_3 l1_3.length c1_3]) (t := 28) ?hr ?_; (case hd => rfl); (case hg => rfl); (case hr => (go_simp; done)); intro gb849 hg w7 hbox hb; have BK849 := M0 hbox; replace HB := M0 (below_step HB.out hb); clear hb hbox hg; obtain ⟨_, _, _, _, _, _, _, _⟩ := cells4 BK849.out))
   go_ret
   exact ⟨by rfl, by with_reducible exact HB.out⟩
  ·rw [if_neg c6] at H
   have c6b0 := bF c6
   have c6b1 := nT c6
   by_cases c9 : a1_0 = 3
   ·rw [if_pos c9] at H
    have c9b0 := bT c9
    have c9b1 := nF c9
    clear c9
    by_cases c10 : 0 ≤ a1_1
    ·rw [if_pos c10] at H
     have c10b0 := decide_eq_true c10
     clear c10
     by_cases c11 : a1_1 < (l0.length : Int)
     ·rw [if_pos c11] at H
      have c11b0 := decide_eq_true c11
      clear c11
      replace H := Option.bind_eq_some_iff.mp H
      obtain ⟨t851, A120, H⟩ := H
      try dsimp only at H
      have A12 := M0 A120
      clear A120
      obtain rfl := Option.some.inj H
      go_enter Try.func20, Try.ntmps20
      go_wp2_with (first | ((with_reducible refine gate_dst (N := 3) rfl ?_); refine box_event ?hg (N := 3) ?hd (cs := #[.int .i64 a1_0, .int .i64 a1_1, .int .i64 a1_2, .slice A1_3 l1_3.length c1_3]) (t := 28) ?hr ?_; (case hd => rfl); (case hg => rfl); (case hr => (go_simp; done)); intro gb849 hg w13 hbox hb; have BK849 := M0 hbox; replace HB := M0 (below_step HB.out hb); clear hb hbox hg; obtain ⟨_, _, _, _, _, _, _, _⟩ := cells4 BK849.out; have p850 : 0 ≤ (a1_1 : Int) := of_decide_eq_true (by (with_reducible assumption)); have q850 : a1_1 < (l0.length : Int) := of_decide_eq_true (by (with_reducible assumption)); obtain ⟨ad850, e850, hx850_0, hx850_1⟩ := at_T56 HR0.out a1_1 p850 q850; cases e850; replace hx850_0 := (HB.out.cell (World.block_lt_of_cell? w _ hx850_0)).trans hx850_0; replace hx850_1 := (HB.out.cell (World.block_lt_of_cell? w _ hx850_1)).trans hx850_1; replace p850 := eq_true p850; replace q850 := eq_true q850) | ((with_reducible refine gate_callee (f := 43) rfl ?_); refine goesL_ (some 21) rfl rfl Try.func43 (by kernel_rfl) rfl #[.agg #[.string ((rd_T56 l0 a1_1).f0), .int .i64 ((rd_T56 l0 a1_1).f1)]] rfl (by (simp only [List.map_toArray, List.map_cons, List.map_nil]); rfl) ?_; (with_reducible refine (canopyref1_Sign.calls ((rd_T56 l0 a1_1).f0) ((rd_T56 l0 a1_1).f1) t851 _ A12.out).mono ?_); rintro e w15 ⟨rfl, hb⟩; refine ⟨_, rfl, ?_⟩; clear BK849; replace HB := M0 (below_step HB.out hb); clear hb))
      go_ret
      exact ⟨by rfl, by with_reducible exact HB.out⟩
     ·rw [if_neg c11] at H
      exact absurd H (by simp)
    ·rw [if_neg c10] at H
     exact absurd H (by simp)
   ·rw [if_neg c9] at H
    have c9b0 := bF c9
    have c9b1 := nT c9
    by_cases c16 : a1_0 = 4
    ·rw [if_pos c16] at H
     have c16b0 := bT c16
     have c16b1 := nF c16
     clear c16
     by_cases c17 : 0 ≤ a1_1
     ·rw [if_pos c17] at H
      have c17b0 := decide_eq_true c17
      clear c17
      by_cases c18 : a1_1 < (l0.length : Int)
      ·rw [if_pos c18] at H
       have c18b0 := decide_eq_true c18
       clear c18
       by_cases c19 : 1 + ((rd_T56 l0 a1_1).f0).size ≤ 9223372036854775807
       ·rw [if_pos c19] at H
        have c19b0 := eq_true c19
        have c19b1 := decide_eq_true c19
        have c19b2 : (9223372036854775807 < 1 + ((rd_T56 l0 a1_1).f0).size) = False := eq_false (Nat.not_lt.2 c19)
        by_cases c20 : ((⟨#[60]⟩ : ByteArray) ++ ((rd_T56 l0 a1_1).f0)).size + 2 ≤ 9223372036854775807
        ·rw [if_pos c20] at H
         have c20b0 := eq_true c20
         have c20b1 := decide_eq_true c20
         have c20b2 : (9223372036854775807 < ((⟨#[60]⟩ : ByteArray) ++ ((rd_T56 l0 a1_1).f0)).size + 2) = False := eq_false (Nat.not_lt.2 c20)
         have c20b3 : (9223372036854775807 < 1 + ((rd_T56 l0 a1_1).f0).size + 2) = False := eq_false (by have z_ := c20; (simp only [ByteArray.size_append] at z_ ⊢); simp only [Nat.not_lt]; exact z_)
         by_cases c21 : 0 < (l1_3.length : Int)
         ·rw [if_pos c21] at H
          have c21b0 := decide_eq_true c21
          clear c21
          replace H := Option.bind_eq_some_iff.mp H
          obtain ⟨t854, A220, H⟩ := H
          try dsimp only at H
          have A22 := M0 A220
          clear A220
          by_cases c23 : (((⟨#[60]⟩ : ByteArray) ++ ((rd_T56 l0 a1_1).f0)) ++ (⟨#[91, 32]⟩ : ByteArray)).size + t854.size ≤ 9223372036854775807
          ·rw [if_pos c23] at H
           have c23b0 := eq_true c23
           have c23b1 := decide_eq_true c23
           have c23b2 : (9223372036854775807 < (((⟨#[60]⟩ : ByteArray) ++ ((rd_T56 l0 a1_1).f0)) ++ (⟨#[91, 32]⟩ : ByteArray)).size + t854.size) = False := eq_false (Nat.not_lt.2 c23)
           have c23b3 : (9223372036854775807 < 1 + ((rd_T56 l0 a1_1).f0).size + 2 + t854.size) = False := eq_false (by have z_ := c23; (simp only [ByteArray.size_append] at z_ ⊢); simp only [Nat.not_lt]; exact z_)
           by_cases c24 : ((((⟨#[60]⟩ : ByteArray) ++ ((rd_T56 l0 a1_1).f0)) ++ (⟨#[91, 32]⟩ : ByteArray)) ++ t854).size + 2 ≤ 9223372036854775807
           ·rw [if_pos c24] at H
            have c24b0 := eq_true c24
            have c24b1 := decide_eq_true c24
            have c24b2 : (9223372036854775807 < ((((⟨#[60]⟩ : ByteArray) ++ ((rd_T56 l0 a1_1).f0)) ++ (⟨#[91, 32]⟩ : ByteArray)) ++ t854).size + 2) = False := eq_false (Nat.not_lt.2 c24)
            have c24b3 : (9223372036854775807 < 1 + ((rd_T56 l0 a1_1).f0).size + 2 + t854.size + 2) = False := eq_false (by have z_ := c24; (simp only [ByteArray.size_append] at z_ ⊢); simp only [Nat.not_lt]; exact z_)
            by_cases c25 : 0 ≤ a1_2
            ·rw [if_pos c25] at H
             have c25b0 := decide_eq_true c25
             clear c25
             by_cases c26 : a1_2 < (l0.length : Int)
             ·rw [if_pos c26] at H
              have c26b0 := decide_eq_true c26
              clear c26
              by_cases c27 : (((((⟨#[60]⟩ : ByteArray) ++ ((rd_T56 l0 a1_1).f0)) ++ (⟨#[91, 32]⟩ : ByteArray)) ++ t854) ++ (⟨#[32, 93]⟩ : ByteArray)).size + ((rd_T56 l0 a1_2).f0).size ≤ 9223372036854775807
              ·rw [if_pos c27] at H
               have c27b0 := eq_true c27
               have c27b1 := decide_eq_true c27
               have c27b2 : (9223372036854775807 < (((((⟨#[60]⟩ : ByteArray) ++ ((rd_T56 l0 a1_1).f0)) ++ (⟨#[91, 32]⟩ : ByteArray)) ++ t854) ++ (⟨#[32, 93]⟩ : ByteArray)).size + ((rd_T56 l0 a1_2).f0).size) = False := eq_false (Nat.not_lt.2 c27)
               have c27b3 : (9223372036854775807 < 1 + ((rd_T56 l0 a1_1).f0).size + 2 + t854.size + 2 + ((rd_T56 l0 a1_2).f0).size) = False := eq_false (by have z_ := c27; (simp only [ByteArray.size_append] at z_ ⊢); simp only [Nat.not_lt]; exact z_)
               by_cases c28 : ((((((⟨#[60]⟩ : ByteArray) ++ ((rd_T56 l0 a1_1).f0)) ++ (⟨#[91, 32]⟩ : ByteArray)) ++ t854) ++ (⟨#[32, 93]⟩ : ByteArray)) ++ ((rd_T56 l0 a1_2).f0)).size + 1 ≤ 9223372036854775807
               ·rw [if_pos c28] at H
                have c28b3 : (9223372036854775807 < 1 + ((rd_T56 l0 a1_1).f0).size + 2 + t854.size + 2 + ((rd_T56 l0 a1_2).f0).size + 1) = False := eq_false (by have z_ := c28; (simp only [ByteArray.size_append] at z_ ⊢); simp only [Nat.not_lt]; exact z_)
                obtain rfl := Option.some.inj H
                go_enter Try.func20, Try.ntmps20
                go_wp2_with (((with_reducible refine gate_dst (N := 3) rfl ?_); refine box_event ?hg (N := 3) ?hd (cs := #[.int .i64 a1_0, .int .i64 a1_1, .int .i64 a1_2, .slice A1_3 l1_3.length c1_3]) (t := 28) ?hr ?_; (case hd => rfl); (case hg => rfl); (case hr => (go_simp; done)); intro gb849 hg w29 hbox hb; have BK849 := M0 hbox; replace HB := M0 (below_step HB.out hb); clear hb hbox hg; obtain ⟨_, _, _, _, _, _, _, _⟩ := cells4 BK849.out))
                have n0_ := M0 (blk_drew BK849.out)
                have n1_ := M0 (below_drew1 HB.out)
                clear BK849 HB
                have BK849 := n0_
                have HB := n1_
                clear n0_ n1_
                have p852 : 0 ≤ (a1_1 : Int) := of_decide_eq_true (by (with_reducible assumption))
                have q852 : a1_1 < (l0.length : Int) := of_decide_eq_true (by (with_reducible assumption))
                obtain ⟨ad852, e852, hx852_0, hx852_1⟩ := at_T56 HR0.out a1_1 p852 q852
                have hw852_1 := hx852_1
                have hw852_0 := hx852_0
                cases e852
                replace hx852_0 := (HB.out.cell (World.block_lt_of_cell? w _ hx852_0)).trans hx852_0
                replace hx852_1 := (HB.out.cell (World.block_lt_of_cell? w _ hx852_1)).trans hx852_1
                replace p852 := eq_true p852
                replace q852 := eq_true q852
                have p853 : 0 ≤ (0 : Int) := (by omega)
                have q853 : 0 < (l1_3.length : Int) := of_decide_eq_true (by (with_reducible assumption))
                obtain ⟨ad853, A853_3, c853_3, e853, hx853_0, hx853_1, hx853_2, hx853_3, hl853_3, hi853_3⟩ := at_T28 HR1_3.out 0 p853 q853
                have hw853_3 := hx853_3
                (rw [show ((0 : Int)).toNat = 0 from rfl] at hw853_3)
                (rw [show 0 * 4 = 0 from rfl] at hw853_3)
                (rw [Addr.add_zero'] at hw853_3)
                have hw853_2 := hx853_2
                (rw [show ((0 : Int)).toNat = 0 from rfl] at hw853_2)
                (rw [show 0 * 4 = 0 from rfl] at hw853_2)
                (rw [Addr.add_zero'] at hw853_2)
                have hw853_1 := hx853_1
                (rw [show ((0 : Int)).toNat = 0 from rfl] at hw853_1)
                (rw [show 0 * 4 = 0 from rfl] at hw853_1)
                (rw [Addr.add_zero'] at hw853_1)
                have hw853_0 := hx853_0
                (rw [show ((0 : Int)).toNat = 0 from rfl] at hw853_0)
                (rw [show 0 * 4 = 0 from rfl] at hw853_0)
                (rw [Addr.add_zero'] at hw853_0)
                cases e853
                have qi853 : (0 < l1_3.length) = True := eq_true (by omega)
                (rw [show ((0 : Int)).toNat = 0 from rfl] at hx853_0)
                (rw [show 0 * 4 = 0 from rfl] at hx853_0)
                (rw [Addr.add_zero'] at hx853_0)
                (rw [show ((0 : Int)).toNat = 0 from rfl] at hx853_1)
                (rw [show 0 * 4 = 0 from rfl] at hx853_1)
                (rw [Addr.add_zero'] at hx853_1)
                (rw [show ((0 : Int)).toNat = 0 from rfl] at hx853_2)
                (rw [show 0 * 4 = 0 from rfl] at hx853_2)
                (rw [Addr.add_zero'] at hx853_2)
                (rw [show ((0 : Int)).toNat = 0 from rfl] at hx853_3)
                (rw [show 0 * 4 = 0 from rfl] at hx853_3)
                (rw [Addr.add_zero'] at hx853_3)
                replace hx853_0 := (HB.out.cell (World.block_lt_of_cell? w _ hx853_0)).trans hx853_0
                replace hx853_1 := (HB.out.cell (World.block_lt_of_cell? w _ hx853_1)).trans hx853_1
                replace hx853_2 := (HB.out.cell (World.block_lt_of_cell? w _ hx853_2)).trans hx853_2
                replace hx853_3 := (HB.out.cell (World.block_lt_of_cell? w _ hx853_3)).trans hx853_3
                have HR853_3 := M0 hi853_3
                have HC853_3 := M0 hl853_3
                clear hi853_3 hl853_3
                clear p853
                clear q853
                have p855 : 0 ≤ (a1_2 : Int) := of_decide_eq_true (by (with_reducible assumption))
                have q855 : a1_2 < (l0.length : Int) := of_decide_eq_true (by (with_reducible assumption))
                obtain ⟨ad855, e855, hx855_0, hx855_1⟩ := at_T56 HR0.out a1_2 p855 q855
                have hw855_1 := hx855_1
                have hw855_0 := hx855_0
                obtain rfl : ad852 = ad855 := (by injection e855)
                replace hx855_0 := (HB.out.cell (World.block_lt_of_cell? w _ hx855_0)).trans hx855_0
                replace hx855_1 := (HB.out.cell (World.block_lt_of_cell? w _ hx855_1)).trans hx855_1
                replace p855 := eq_true p855
                replace q855 := eq_true q855
                refine start_ (n := 25) (S := fun w' => w'.cell? ⟨gb849, 0, none⟩ = some (.int .i64 a1_0) ∧ w'.cell? ⟨gb849, 1, none⟩ = some (.int .i64 a1_1) ∧ w'.cell? ⟨gb849, 2, none⟩ = some (.int .i64 a1_2) ∧ w'.cell? ⟨gb849, 3, none⟩ = some (.slice (some ad853) l1_3.length c1_3) ∧ w'.cell? (ad852.add ((a1_1).toNat * 2)) = some (.string ((rd_T56 l0 a1_1).f0)) ∧ w'.cell? ⟨(ad852.add ((a1_1).toNat * 2)).block, (ad852.add ((a1_1).toNat * 2)).off + 1, none⟩ = some (.int .i64 ((rd_T56 l0 a1_1).f1)) ∧ w'.cell? ad853 = some (.int .i64 ((rd_T28 l1_3 0).f0)) ∧ w'.cell? ⟨ad853.block, ad853.off + 1, none⟩ = some (.int .i64 ((rd_T28 l1_3 0).f1)) ∧ w'.cell? ⟨ad853.block, ad853.off + 2, none⟩ = some (.int .i64 ((rd_T28 l1_3 0).f2)) ∧ w'.cell? ⟨ad853.block, ad853.off + 3, none⟩ = some (.slice A853_3 ((rd_T28 l1_3 0).f3).length c853_3) ∧ w'.cell? (ad852.add ((a1_2).toNat * 2)) = some (.string ((rd_T56 l0 a1_2).f0)) ∧ w'.cell? ⟨(ad852.add ((a1_2).toNat * 2)).block, (ad852.add ((a1_2).toNat * 2)).off + 1, none⟩ = some (.int .i64 ((rd_T56 l0 a1_2).f1))) (ds := []) #[false, false, false, false, false, false, false, false, false, false, false, false, false, false, false, false, false, false, false, false, false, false, false, false, false] (by kernel_rfl) rfl rfl ⟨(blk_cell BK849.out 0).trans rfl, (blk_cell BK849.out 1).trans rfl, (blk_cell BK849.out 2).trans rfl, (blk_cell BK849.out 3).trans rfl, ((HB.out.cell (World.block_lt_of_cell? w _ hw852_0)).trans hw852_0), ((HB.out.cell (World.block_lt_of_cell? w _ hw852_1)).trans hw852_1), ((HB.out.cell (World.block_lt_of_cell? w _ hw853_0)).trans hw853_0), ((HB.out.cell (World.block_lt_of_cell? w _ hw853_1)).trans hw853_1), ((HB.out.cell (World.block_lt_of_cell? w _ hw853_2)).trans hw853_2), ((HB.out.cell (World.block_lt_of_cell? w _ hw853_3)).trans hw853_3), ((HB.out.cell (World.block_lt_of_cell? w _ hw855_0)).trans hw855_0), ((HB.out.cell (World.block_lt_of_cell? w _ hw855_1)).trans hw855_1)⟩ (fun hHeld => ?_); refine with_tabW canopyref5_Text.tab10 canopyref5_Text.bits10 (fun HT_ HW_ => ?_)
                generalize w29.drew = w31 at BK849 HB HR853_3 hx852_0 hx852_1 hx853_0 hx853_1 hx853_2 hx853_3 hx855_0 hx855_1 hHeld ⊢
                refine pure_ (i := 0) (N := some 24) (v := ?_) (a' := ?_) #[true, false, false, false, false, false, false, false, false, false, false, false, false, false, false, false, false, false, false, false, false, false, false, false, false] rfl rfl (any_of HT_.out (by kernel_rfl)) (fun _ _ _ h => h) (Or.inl ⟨by rfl, ?_⟩) ?_ ?_
                rotate_left
                ·intro w'
                 go_simp
                 with_reducible rfl
                rotate_left
                ·simp only [Act.put, List.setIfInBounds_toArray, List.set_cons_zero, List.set_cons_succ, i64_w, i32_w]
                 rfl
                refine pure_ (i := 1) (N := some 25) (v := ?_) (a' := ?_) #[true, true, false, false, false, false, false, false, false, false, false, false, false, false, false, false, false, false, false, false, false, false, false, false, false] rfl rfl (any_of HT_.out (by kernel_rfl)) (fun _ _ _ h => h) (Or.inl ⟨by rfl, ?_⟩) ?_ ?_
                rotate_left
                ·intro w'
                 go_simp
                 with_reducible rfl
                rotate_left
                ·simp only [Act.put, List.setIfInBounds_toArray, List.set_cons_zero, List.set_cons_succ, i64_w, i32_w]
                 rfl
                refine pure_ (i := 8) (N := some 32) (v := ?_) (a' := ?_) #[true, true, false, false, false, false, false, false, true, false, false, false, false, false, false, false, false, false, false, false, false, false, false, false, false] rfl rfl (any_of HT_.out (by kernel_rfl)) (fun _ _ _ h => h) (Or.inl ⟨by rfl, ?_⟩) ?_ ?_
                rotate_left
                ·intro w'
                 go_simp
                 with_reducible rfl
                rotate_left
                ·simp only [Act.put, List.setIfInBounds_toArray, List.set_cons_zero, List.set_cons_succ, i64_w, i32_w]
                 rfl
                refine pure_ (i := 9) (N := some 33) (v := ?_) (a' := ?_) #[true, true, false, false, false, false, false, false, true, true, false, false, false, false, false, false, false, false, false, false, false, false, false, false, false] rfl rfl (any_of HT_.out (by kernel_rfl)) (fun _ _ _ h => h) (Or.inl ⟨by rfl, ?_⟩) ?_ ?_
                rotate_left
                ·intro w'
                 go_simp
                 with_reducible rfl
                rotate_left
                ·simp only [Act.put, List.setIfInBounds_toArray, List.set_cons_zero, List.set_cons_succ, i64_w, i32_w]
                 rfl
                refine pure_ (i := 16) (N := some 40) (v := ?_) (a' := ?_) #[true, true, false, false, false, false, false, false, true, true, false, false, false, false, false, false, true, false, false, false, false, false, false, false, false] rfl rfl (any_of HT_.out (by kernel_rfl)) (fun _ _ _ h => h) (Or.inl ⟨by rfl, ?_⟩) ?_ ?_
                rotate_left
                ·intro w'
                 go_simp
                 with_reducible rfl
                rotate_left
                ·simp only [Act.put, List.setIfInBounds_toArray, List.set_cons_zero, List.set_cons_succ, i64_w, i32_w]
                 rfl
                refine pure_ (i := 17) (N := some 41) (v := ?_) (a' := ?_) #[true, true, false, false, false, false, false, false, true, true, false, false, false, false, false, false, true, true, false, false, false, false, false, false, false] rfl rfl (any_of HT_.out (by kernel_rfl)) (fun _ _ _ h => h) (Or.inl ⟨by rfl, ?_⟩) ?_ ?_
                rotate_left
                ·intro w'
                 go_simp
                 with_reducible rfl
                rotate_left
                ·simp only [Act.put, List.setIfInBounds_toArray, List.set_cons_zero, List.set_cons_succ, i64_w, i32_w]
                 rfl
                refine take_ (i := 2) (N := some 26) (v := ?_) (a' := ?_) #[true, true, true, false, false, false, false, false, true, true, false, false, false, false, false, false, true, true, false, false, false, false, false, false, false] rfl rfl (take_ofW HT_.out HW_.out (by kernel_rfl)) (fun _ _ _ h => h) (Or.inl ⟨by rfl, ?_⟩) hHeld ?_ ?_
                rotate_left
                ·rintro w' ⟨s0, s1, s2, s3, s4, s5, s6, s7, s8, s9, s10, s11⟩
                 go_simp
                 with_reducible rfl
                rotate_left
                ·simp only [Act.put, List.setIfInBounds_toArray, List.set_cons_zero, List.set_cons_succ, i64_w, i32_w]
                 rfl
                refine pure_ (i := 3) (N := some 27) (v := ?_) (a' := ?_) #[true, true, true, true, false, false, false, false, true, true, false, false, false, false, false, false, true, true, false, false, false, false, false, false, false] rfl rfl (any_of HT_.out (by kernel_rfl)) (fun _ _ _ h => h) (Or.inl ⟨by rfl, ?_⟩) ?_ ?_
                rotate_left
                ·intro w'
                 go_simp
                 with_reducible rfl
                rotate_left
                ·simp only [Act.put, List.setIfInBounds_toArray, List.set_cons_zero, List.set_cons_succ, i64_w, i32_w]
                 rfl
                refine pure_ (i := 4) (N := some 28) (v := ?_) (a' := ?_) #[true, true, true, true, true, false, false, false, true, true, false, false, false, false, false, false, true, true, false, false, false, false, false, false, false] rfl rfl (any_of HT_.out (by kernel_rfl)) (fun _ _ _ h => h) (Or.inl ⟨by rfl, ?_⟩) ?_ ?_
                rotate_left
                ·intro w'
                 go_simp
                 with_reducible rfl
                rotate_left
                ·simp only [Act.put, List.setIfInBounds_toArray, List.set_cons_zero, List.set_cons_succ, i64_w, i32_w]
                 rfl
                refine take_ (i := 5) (N := some 29) (v := ?_) (a' := ?_) #[true, true, true, true, true, true, false, false, true, true, false, false, false, false, false, false, true, true, false, false, false, false, false, false, false] rfl rfl (take_ofW HT_.out HW_.out (by kernel_rfl)) (fun _ _ _ h => h) (Or.inl ⟨by rfl, ?_⟩) hHeld ?_ ?_
                rotate_left
                ·rintro w' ⟨s0, s1, s2, s3, s4, s5, s6, s7, s8, s9, s10, s11⟩
                 go_simp
                 with_reducible rfl
                rotate_left
                ·simp only [Act.put, List.setIfInBounds_toArray, List.set_cons_zero, List.set_cons_succ, i64_w, i32_w]
                 rfl
                refine pure_ (i := 6) (N := some 30) (v := ?_) (a' := ?_) #[true, true, true, true, true, true, true, false, true, true, false, false, false, false, false, false, true, true, false, false, false, false, false, false, false] rfl rfl (any_of HT_.out (by kernel_rfl)) (fun _ _ _ h => h) (Or.inl ⟨by rfl, ?_⟩) ?_ ?_
                rotate_left
                ·intro w'
                 go_simp
                 with_reducible rfl
                rotate_left
                ·simp only [Act.put, List.setIfInBounds_toArray, List.set_cons_zero, List.set_cons_succ, i64_w, i32_w]
                 rfl
                refine pure_ (i := 7) (N := some 31) (v := ?_) (a' := ?_) #[true, true, true, true, true, true, true, true, true, true, false, false, false, false, false, false, true, true, false, false, false, false, false, false, false] rfl rfl (any_of HT_.out (by kernel_rfl)) (fun _ _ _ h => h) (Or.inl ⟨by rfl, ?_⟩) ?_ ?_
                rotate_left
                ·intro w'
                 go_simp
                 with_reducible rfl
                rotate_left
                ·simp only [Act.put, List.setIfInBounds_toArray, List.set_cons_zero, List.set_cons_succ, i64_w, i32_w]
                 rfl
                refine take_ (i := 10) (N := some 34) (v := ?_) (a' := ?_) #[true, true, true, true, true, true, true, true, true, true, true, false, false, false, false, false, true, true, false, false, false, false, false, false, false] rfl rfl (take_ofW HT_.out HW_.out (by kernel_rfl)) (fun _ _ _ h => h) (Or.inl ⟨by rfl, ?_⟩) hHeld ?_ ?_
                rotate_left
                ·rintro w' ⟨s0, s1, s2, s3, s4, s5, s6, s7, s8, s9, s10, s11⟩
                 go_simp
                 with_reducible rfl
                rotate_left
                ·simp only [Act.put, List.setIfInBounds_toArray, List.set_cons_zero, List.set_cons_succ, i64_w, i32_w]
                 rfl
                refine pure_ (i := 11) (N := some 35) (v := ?_) (a' := ?_) #[true, true, true, true, true, true, true, true, true, true, true, true, false, false, false, false, true, true, false, false, false, false, false, false, false] rfl rfl (any_of HT_.out (by kernel_rfl)) (fun _ _ _ h => h) (Or.inl ⟨by rfl, ?_⟩) ?_ ?_
                rotate_left
                ·intro w'
                 go_simp
                 with_reducible rfl
                rotate_left
                ·simp only [Act.put, List.setIfInBounds_toArray, List.set_cons_zero, List.set_cons_succ, i64_w, i32_w]
                 rfl
                refine take_ (i := 12) (N := some 36) (v := ?_) (a' := ?_) #[true, true, true, true, true, true, true, true, true, true, true, true, true, false, false, false, true, true, false, false, false, false, false, false, false] rfl rfl (take_ofW HT_.out HW_.out (by kernel_rfl)) (fun _ _ _ h => h) (Or.inl ⟨by rfl, ?_⟩) hHeld ?_ ?_
                rotate_left
                ·rintro w' ⟨s0, s1, s2, s3, s4, s5, s6, s7, s8, s9, s10, s11⟩
                 go_simp
                 with_reducible rfl
                rotate_left
                ·simp only [Act.put, List.setIfInBounds_toArray, List.set_cons_zero, List.set_cons_succ, i64_w, i32_w]
                 rfl
                refine take_ (i := 18) (N := some 42) (v := ?_) (a' := ?_) #[true, true, true, true, true, true, true, true, true, true, true, true, true, false, false, false, true, true, true, false, false, false, false, false, false] rfl rfl (take_ofW HT_.out HW_.out (by kernel_rfl)) (fun _ _ _ h => h) (Or.inl ⟨by rfl, ?_⟩) hHeld ?_ ?_
                rotate_left
                ·rintro w' ⟨s0, s1, s2, s3, s4, s5, s6, s7, s8, s9, s10, s11⟩
                 go_simp
                 with_reducible rfl
                rotate_left
                ·simp only [Act.put, List.setIfInBounds_toArray, List.set_cons_zero, List.set_cons_succ, i64_w, i32_w]
                 rfl
                refine pure_ (i := 19) (N := some 43) (v := ?_) (a' := ?_) #[true, true, true, true, true, true, true, true, true, true, true, true, true, false, false, false, true, true, true, true, false, false, false, false, false] rfl rfl (any_of HT_.out (by kernel_rfl)) (fun _ _ _ h => h) (Or.inl ⟨by rfl, ?_⟩) ?_ ?_
                rotate_left
                ·intro w'
                 go_simp
                 with_reducible rfl
                rotate_left
                ·simp only [Act.put, List.setIfInBounds_toArray, List.set_cons_zero, List.set_cons_succ, i64_w, i32_w]
                 rfl
                refine pure_ (i := 20) (N := some 44) (v := ?_) (a' := ?_) #[true, true, true, true, true, true, true, true, true, true, true, true, true, false, false, false, true, true, true, true, true, false, false, false, false] rfl rfl (any_of HT_.out (by kernel_rfl)) (fun _ _ _ h => h) (Or.inl ⟨by rfl, ?_⟩) ?_ ?_
                rotate_left
                ·intro w'
                 go_simp
                 with_reducible rfl
                rotate_left
                ·simp only [Act.put, List.setIfInBounds_toArray, List.set_cons_zero, List.set_cons_succ, i64_w, i32_w]
                 rfl
                refine take_ (i := 21) (N := some 45) (v := ?_) (a' := ?_) #[true, true, true, true, true, true, true, true, true, true, true, true, true, false, false, false, true, true, true, true, true, true, false, false, false] rfl rfl (take_ofW HT_.out HW_.out (by kernel_rfl)) (fun _ _ _ h => h) (Or.inl ⟨by rfl, ?_⟩) hHeld ?_ ?_
                rotate_left
                ·rintro w' ⟨s0, s1, s2, s3, s4, s5, s6, s7, s8, s9, s10, s11⟩
                 go_simp
                 with_reducible rfl
                rotate_left
                ·simp only [Act.put, List.setIfInBounds_toArray, List.set_cons_zero, List.set_cons_succ, i64_w, i32_w]
                 rfl
                refine one_ (i := 13) (N := some 37) #[true, true, true, true, true, true, true, true, true, true, true, true, true, true, false, false, true, true, true, true, true, true, false, false, false] rfl rfl (one_of HT_.out (by kernel_rfl)) (by decide) (fun K hK => ?_)
                refine goes_ Try.func20 (by kernel_rfl) rfl #[.slice (some ad852) l0.length c0, .agg #[.int .i64 ((rd_T28 l1_3 0).f0), .int .i64 ((rd_T28 l1_3 0).f1), .int .i64 ((rd_T28 l1_3 0).f2), .slice A853_3 ((rd_T28 l1_3 0).f3).length c853_3]] (by rfl) rfl rfl (by (simp only [List.map_toArray, List.map_cons, List.map_nil]); rfl) ?_
                with_reducible refine (ih20 k (by omega) _ _ l0 ((rd_T28 l1_3 0).f0) ((rd_T28 l1_3 0).f1) ((rd_T28 l1_3 0).f2) _ _ ((rd_T28 l1_3 0).f3) t854 _ ?side1 ?side2 ?side3 ?side4 A22.out).mono ?_
                (case side1 => repeat (exact (Kd.C_below HR0.out HB.out)))
                (case side2 => exact HC0.out)
                (case side3 => repeat (exact (Kd.C_below HR853_3.out HB.out)))
                (case side4 => exact HC853_3.out)
                rintro e w32 ⟨rfl, hb⟩
                refine ⟨_, rfl, ?_⟩
                have n0_ := M0 (blk_below BK849.out hb)
                have n1_ := M0 (below_step HB.out hb)
                clear BK849 HB
                have BK849 := n0_
                have HB := n1_
                clear n0_ n1_
                (clear hb)
                (skip)
                (skip)
                (skip)
                refine hK.out _ _ ⟨(blk_cell BK849.out 0).trans rfl, (blk_cell BK849.out 1).trans rfl, (blk_cell BK849.out 2).trans rfl, (blk_cell BK849.out 3).trans rfl, ((HB.out.cell (World.block_lt_of_cell? w _ hw852_0)).trans hw852_0), ((HB.out.cell (World.block_lt_of_cell? w _ hw852_1)).trans hw852_1), ((HB.out.cell (World.block_lt_of_cell? w _ hw853_0)).trans hw853_0), ((HB.out.cell (World.block_lt_of_cell? w _ hw853_1)).trans hw853_1), ((HB.out.cell (World.block_lt_of_cell? w _ hw853_2)).trans hw853_2), ((HB.out.cell (World.block_lt_of_cell? w _ hw853_3)).trans hw853_3), ((HB.out.cell (World.block_lt_of_cell? w _ hw855_0)).trans hw855_0), ((HB.out.cell (World.block_lt_of_cell? w _ hw855_1)).trans hw855_1)⟩ (fun hHeld => ?_)
                clear hK K
                refine norm_ (a' := ?_) ?_ ?_
                rotate_left
                ·show Act.put _ (some 37) _ = _
                 simp only [Act.put, List.setIfInBounds_toArray, List.set_cons_zero, List.set_cons_succ, i64_w, i32_w]
                 rfl
                refine pure_ (i := 14) (N := some 38) (v := ?_) (a' := ?_) #[true, true, true, true, true, true, true, true, true, true, true, true, true, true, true, false, true, true, true, true, true, true, false, false, false] rfl rfl (any_of HT_.out (by kernel_rfl)) (fun _ _ _ h => h) (Or.inl ⟨by rfl, ?_⟩) ?_ ?_
                rotate_left
                ·intro w'
                 go_simp
                 with_reducible rfl
                rotate_left
                ·simp only [Act.put, List.setIfInBounds_toArray, List.set_cons_zero, List.set_cons_succ, i64_w, i32_w]
                 rfl
                refine pure_ (i := 15) (N := some 39) (v := ?_) (a' := ?_) #[true, true, true, true, true, true, true, true, true, true, true, true, true, true, true, true, true, true, true, true, true, true, false, false, false] rfl rfl (any_of HT_.out (by kernel_rfl)) (fun _ _ _ h => h) (Or.inl ⟨by rfl, ?_⟩) ?_ ?_
                rotate_left
                ·intro w'
                 go_simp
                 with_reducible rfl
                rotate_left
                ·simp only [Act.put, List.setIfInBounds_toArray, List.set_cons_zero, List.set_cons_succ, i64_w, i32_w]
                 rfl
                refine pure_ (i := 22) (N := some 46) (v := ?_) (a' := ?_) #[true, true, true, true, true, true, true, true, true, true, true, true, true, true, true, true, true, true, true, true, true, true, true, false, false] rfl rfl (any_of HT_.out (by kernel_rfl)) (fun _ _ _ h => h) (Or.inl ⟨by rfl, ?_⟩) ?_ ?_
                rotate_left
                ·intro w'
                 go_simp
                 with_reducible rfl
                rotate_left
                ·simp only [Act.put, List.setIfInBounds_toArray, List.set_cons_zero, List.set_cons_succ, i64_w, i32_w]
                 rfl
                refine pure_ (i := 23) (N := some 47) (v := ?_) (a' := ?_) #[true, true, true, true, true, true, true, true, true, true, true, true, true, true, true, true, true, true, true, true, true, true, true, true, false] rfl rfl (any_of HT_.out (by kernel_rfl)) (fun _ _ _ h => h) (Or.inl ⟨by rfl, ?_⟩) ?_ ?_
                rotate_left
                ·intro w'
                 go_simp
                 with_reducible rfl
                rotate_left
                ·simp only [Act.put, List.setIfInBounds_toArray, List.set_cons_zero, List.set_cons_succ, i64_w, i32_w]
                 rfl
                refine pure_ (i := 24) (N := some 4) (v := ?_) (a' := ?_) #[true, true, true, true, true, true, true, true, true, true, true, true, true, true, true, true, true, true, true, true, true, true, true, true, true] rfl rfl (any_of HT_.out (by kernel_rfl)) (fun _ _ _ h => h) (Or.inl ⟨by rfl, ?_⟩) ?_ ?_
                rotate_left
                ·intro w'
                 go_simp
                 with_reducible rfl
                rotate_left
                ·simp only [Act.put, List.setIfInBounds_toArray, List.set_cons_zero, List.set_cons_succ, i64_w, i32_w]
                 rfl
                refine done_ (done_of HT_.out (by kernel_rfl)) ?_
                go_wp2
                go_ret
                exact ⟨by rfl, by with_reducible exact HB.out⟩
               ·rw [if_neg c28] at H
                exact absurd H (by simp)
              ·rw [if_neg c27] at H
               exact absurd H (by simp)
             ·rw [if_neg c26] at H
              exact absurd H (by simp)
            ·rw [if_neg c25] at H
             exact absurd H (by simp)
           ·rw [if_neg c24] at H
            exact absurd H (by simp)
          ·rw [if_neg c23] at H
           exact absurd H (by simp)
         ·rw [if_neg c21] at H
          exact absurd H (by simp)
        ·rw [if_neg c20] at H
         exact absurd H (by simp)
       ·rw [if_neg c19] at H
        exact absurd H (by simp)
      ·rw [if_neg c18] at H
       exact absurd H (by simp)
     ·rw [if_neg c17] at H
      exact absurd H (by simp)
    ·rw [if_neg c16] at H
     have c16b0 := bF c16
     have c16b1 := nT c16
     by_cases c33 : a1_0 = 7
     ·rw [if_pos c33] at H
      have c33b0 := bT c33
      have c33b1 := nF c33
      clear c33
      by_cases c34 : 0 < (l1_3.length : Int)
      ·rw [if_pos c34] at H
       have c34b0 := decide_eq_true c34
       clear c34
       replace H := Option.bind_eq_some_iff.mp H
       obtain ⟨t857, A350, H⟩ := H
       try dsimp only at H
       have A35 := M0 A350
       clear A350
       by_cases c36 : t857.size + 1 ≤ 9223372036854775807
       ·rw [if_pos c36] at H
        have c36b2 : (9223372036854775807 < t857.size + 1) = False := eq_false (Nat.not_lt.2 c36)
        obtain rfl := Option.some.inj H
        go_enter Try.func20, Try.ntmps20
        go_wp2_with (first | ((with_reducible refine gate_dst (N := 3) rfl ?_); refine box_event ?hg (N := 3) ?hd (cs := #[.int .i64 a1_0, .int .i64 a1_1, .int .i64 a1_2, .slice A1_3 l1_3.length c1_3]) (t := 28) ?hr ?_; (case hd => rfl); (case hg => rfl); (case hr => (go_simp; done)); intro gb849 hg w37 hbox hb; have BK849 := M0 hbox; replace HB := M0 (below_step HB.out hb); clear hb hbox hg; obtain ⟨_, _, _, _, _, _, _, _⟩ := cells4 BK849.out; have p856 : 0 ≤ (0 : Int) := (by omega); have q856 : 0 < (l1_3.length : Int) := of_decide_eq_true (by (with_reducible assumption)); obtain ⟨ad856, A856_3, c856_3, e856, hx856_0, hx856_1, hx856_2, hx856_3, hl856_3, hi856_3⟩ := at_T28 HR1_3.out 0 p856 q856; cases e856; have qi856 : (0 < l1_3.length) = True := eq_true (by omega); (rw [show ((0 : Int)).toNat = 0 from rfl] at hx856_0); (rw [show 0 * 4 = 0 from rfl] at hx856_0); (rw [Addr.add_zero'] at hx856_0); (rw [show ((0 : Int)).toNat = 0 from rfl] at hx856_1); (rw [show 0 * 4 = 0 from rfl] at hx856_1); (rw [Addr.add_zero'] at hx856_1); (rw [show ((0 : Int)).toNat = 0 from rfl] at hx856_2); (rw [show 0 * 4 = 0 from rfl] at hx856_2); (rw [Addr.add_zero'] at hx856_2); (rw [show ((0 : Int)).toNat = 0 from rfl] at hx856_3); (rw [show 0 * 4 = 0 from rfl] at hx856_3); (rw [Addr.add_zero'] at hx856_3); replace hx856_0 := (HB.out.cell (World.block_lt_of_cell? w _ hx856_0)).trans hx856_0; replace hx856_1 := (HB.out.cell (World.block_lt_of_cell? w _ hx856_1)).trans hx856_1; replace hx856_2 := (HB.out.cell (World.block_lt_of_cell? w _ hx856_2)).trans hx856_2; replace hx856_3 := (HB.out.cell (World.block_lt_of_cell? w _ hx856_3)).trans hx856_3; have HR856_3 := M0 hi856_3; have HC856_3 := M0 hl856_3; clear hi856_3 hl856_3; clear p856; clear q856) | ((with_reducible refine gate_callee (f := 44) rfl ?_); refine goesL_ (some 55) rfl rfl Try.func44 (by kernel_rfl) rfl #[.slice A0 l0.length c0, .agg #[.int .i64 ((rd_T28 l1_3 0).f0), .int .i64 ((rd_T28 l1_3 0).f1), .int .i64 ((rd_T28 l1_3 0).f2), .slice A856_3 ((rd_T28 l1_3 0).f3).length c856_3], .bool true] rfl (by (simp only [List.map_toArray, List.map_cons, List.map_nil]); rfl) ?_; (with_reducible refine (ih44 k (by omega) _ _ l0 ((rd_T28 l1_3 0).f0) ((rd_T28 l1_3 0).f1) ((rd_T28 l1_3 0).f2) _ _ ((rd_T28 l1_3 0).f3) true t857 _ ?side1 ?side2 ?side3 ?side4 A35.out).mono ?_); (case side1 => repeat (exact (Kd.C_below HR0.out HB.out))); (case side2 => exact HC0.out); (case side3 => repeat (exact (Kd.C_below HR856_3.out HB.out))); (case side4 => exact HC856_3.out); rintro e w39 ⟨rfl, hb⟩; refine ⟨_, rfl, ?_⟩; clear BK849; replace HB := M0 (below_step HB.out hb); clear hb))
        go_ret
        exact ⟨by rfl, by with_reducible exact HB.out⟩
       ·rw [if_neg c36] at H
        exact absurd H (by simp)
      ·rw [if_neg c34] at H
       exact absurd H (by simp)
     ·rw [if_neg c33] at H
      have c33b0 := bF c33
      have c33b1 := nT c33
      by_cases c40 : a1_0 = 5
      ·rw [if_pos c40] at H
       have c40b0 := bT c40
       have c40b1 := nF c40
       clear c40
       have H' := M0 H
       clear H
       go_enter Try.func20, Try.ntmps20
       go_wp2_with (((with_reducible refine gate_dst (N := 3) rfl ?_); refine box_event ?hg (N := 3) ?hd (cs := #[.int .i64 a1_0, .int .i64 a1_1, .int .i64 a1_2, .slice A1_3 l1_3.length c1_3]) (t := 28) ?hr ?_; (case hd => rfl); (case hg => rfl); (case hr => (go_simp; done)); intro gb849 hg w41 hbox hb; have BK849 := M0 hbox; replace HB := M0 (below_step HB.out hb); clear hb hbox hg; obtain ⟨hcz42_0, hcz42_1, hcz42_2, hcz42_3, hfz42_0, hfz42_1, hfz42_2, hfz42_3⟩ := cells4 BK849.out))
       go_loopg [5, 6] k (fun kq v5 v6 w' => ∃ (x5_1 : ByteArray) (x6_1 : Int), v5 = .string x5_1 ∧ v6 = .int .i64 x6_1 ∧ Aside0 (canopyref5_Text.l0 kq l0 x5_1 x6_1 a1_0 a1_1 a1_2 l1_3 = some r) ∧ Aside0 (kq ≤ k) ∧ Aside0 (w'.heap[gb849]? = some (.cells #[.int .i64 a1_0, .int .i64 a1_1, .int .i64 a1_2, (.slice A1_3 l1_3.length c1_3)] 28 (0, 0))) ∧ Aside0 (Below w.heap.size w w'))
       case atStart => exact ⟨((⟨#[]⟩ : ByteArray)), (0), (by rfl), (by rfl), H', ⟨Nat.le_refl _⟩, ⟨by exact BK849.out⟩, ⟨by with_reducible exact HB.out⟩⟩
       case round =>
        clear H'
        clear c3 c3b0 c3b1 c6 c6b0 c6b1 c9 c9b0 c9b1 c16 c16b0 c16b1 c33 c33b0 c33b1 c40b0 c40b1 hcz42_0 hcz42_1 hcz42_2 hcz42_3 hfz42_0 hfz42_1 hfz42_2 hfz42_3
        obtain ⟨x5_1, x6_1, rfl, rfl, HA, HK1, BK849, HB⟩ := hrel
        cases gk with
        | zero => exact absurd HA.out (by simp [canopyref5_Text.l0])
        | succ k1 =>
         have H := HA.out
         clear HA
         simp only [canopyref5_Text.l0] at H
         by_cases c43 : x6_1 < (l1_3.length : Int)
         ·rw [if_pos c43] at H
          have c43b0 := decide_eq_true c43
          clear c43
          by_cases c44 : x6_1 > 0
          ·rw [if_pos c44] at H
           have c44b0 : decide (0 < x6_1) = true := decide_eq_true c44
           clear c44
           by_cases c45 : x5_1.size + 1 ≤ 9223372036854775807
           ·rw [if_pos c45] at H
            have c45b0 := eq_true c45
            have c45b1 := decide_eq_true c45
            have c45b2 : (9223372036854775807 < x5_1.size + 1) = False := eq_false (Nat.not_lt.2 c45)
            by_cases c46 : 0 ≤ x6_1
            ·rw [if_pos c46] at H
             have c46b0 := decide_eq_true c46
             clear c46
             replace H := Option.bind_eq_some_iff.mp H
             obtain ⟨t859, A470, H⟩ := H
             try dsimp only at H
             have A47 := M0 A470
             clear A470
             by_cases c48 : (x5_1 ++ (⟨#[32]⟩ : ByteArray)).size + t859.size ≤ 9223372036854775807
             ·rw [if_pos c48] at H
              have c48b3 : (9223372036854775807 < x5_1.size + 1 + t859.size) = False := eq_false (by have z_ := c48; (simp only [ByteArray.size_append] at z_ ⊢); simp only [Nat.not_lt]; exact z_)
              have H' := M0 H
              clear H
              obtain ⟨_, _, _, _, _, _, _, _⟩ := cells4 BK849.out
              have p858 : 0 ≤ (x6_1 : Int) := of_decide_eq_true (by (with_reducible assumption))
              have q858 : x6_1 < (l1_3.length : Int) := of_decide_eq_true (by (with_reducible assumption))
              obtain ⟨ad858, A858_3, c858_3, e858, hx858_0, hx858_1, hx858_2, hx858_3, hl858_3, hi858_3⟩ := at_T28 HR1_3.out x6_1 p858 q858
              cases e858
              replace hx858_0 := (HB.out.cell (World.block_lt_of_cell? w _ hx858_0)).trans hx858_0
              replace hx858_1 := (HB.out.cell (World.block_lt_of_cell? w _ hx858_1)).trans hx858_1
              replace hx858_2 := (HB.out.cell (World.block_lt_of_cell? w _ hx858_2)).trans hx858_2
              replace hx858_3 := (HB.out.cell (World.block_lt_of_cell? w _ hx858_3)).trans hx858_3
              have HR858_3 := M0 hi858_3
              have HC858_3 := M0 hl858_3
              clear hi858_3 hl858_3
              replace p858 := eq_true p858
              replace q858 := eq_true q858
              go_wp2_with (((with_reducible refine gate_callee (f := 44) rfl ?_); refine goesL_ (some 77) rfl rfl Try.func44 (by kernel_rfl) rfl #[.slice A0 l0.length c0, .agg #[.int .i64 ((rd_T28 l1_3 x6_1).f0), .int .i64 ((rd_T28 l1_3 x6_1).f1), .int .i64 ((rd_T28 l1_3 x6_1).f2), .slice A858_3 ((rd_T28 l1_3 x6_1).f3).length c858_3], .bool true] rfl (by (simp only [List.map_toArray, List.map_cons, List.map_nil]); rfl) ?_; (with_reducible refine (ih44 k1 (by have := HK1.out; omega) _ _ l0 ((rd_T28 l1_3 x6_1).f0) ((rd_T28 l1_3 x6_1).f1) ((rd_T28 l1_3 x6_1).f2) _ _ ((rd_T28 l1_3 x6_1).f3) true t859 _ ?side1 ?side2 ?side3 ?side4 A47.out).mono ?_); (case side1 => repeat (exact (Kd.C_below HR0.out HB.out))); (case side2 => exact HC0.out); (case side3 => repeat (exact (Kd.C_below HR858_3.out HB.out))); (case side4 => exact HC858_3.out); rintro e w50 ⟨rfl, hb⟩; refine ⟨_, rfl, ?_⟩; replace BK849 := M0 (blk_below BK849.out hb); replace HB := M0 (below_step HB.out hb); clear hb))
              go_roundg k1
              case measure => have := HK1.out; omega
              case rel => exact ⟨((x5_1 ++ (⟨#[32]⟩ : ByteArray)) ++ t859), (wrap64 (x6_1 + 1)), (by rfl), (by rfl), H', ⟨by have := HK1.out; omega⟩, ⟨by exact BK849.out⟩, ⟨by with_reducible exact HB.out⟩⟩
             ·rw [if_neg c48] at H
              exact absurd H (by simp)
            ·rw [if_neg c46] at H
             exact absurd H (by simp)
           ·rw [if_neg c45] at H
            exact absurd H (by simp)
          ·rw [if_neg c44] at H
           have c44b0 : decide (0 < x6_1) = false := decide_eq_false c44
           clear c44
           by_cases c51 : 0 ≤ x6_1
           ·rw [if_pos c51] at H
            have c51b0 := decide_eq_true c51
            clear c51
            replace H := Option.bind_eq_some_iff.mp H
            obtain ⟨t861, A520, H⟩ := H
            try dsimp only at H
            have A52 := M0 A520
            clear A520
            by_cases c53 : x5_1.size + t861.size ≤ 9223372036854775807
            ·rw [if_pos c53] at H
             have c53b2 : (9223372036854775807 < x5_1.size + t861.size) = False := eq_false (Nat.not_lt.2 c53)
             have H' := M0 H
             clear H
             obtain ⟨_, _, _, _, _, _, _, _⟩ := cells4 BK849.out
             have p860 : 0 ≤ (x6_1 : Int) := of_decide_eq_true (by (with_reducible assumption))
             have q860 : x6_1 < (l1_3.length : Int) := of_decide_eq_true (by (with_reducible assumption))
             obtain ⟨ad860, A860_3, c860_3, e860, hx860_0, hx860_1, hx860_2, hx860_3, hl860_3, hi860_3⟩ := at_T28 HR1_3.out x6_1 p860 q860
             cases e860
             replace hx860_0 := (HB.out.cell (World.block_lt_of_cell? w _ hx860_0)).trans hx860_0
             replace hx860_1 := (HB.out.cell (World.block_lt_of_cell? w _ hx860_1)).trans hx860_1
             replace hx860_2 := (HB.out.cell (World.block_lt_of_cell? w _ hx860_2)).trans hx860_2
             replace hx860_3 := (HB.out.cell (World.block_lt_of_cell? w _ hx860_3)).trans hx860_3
             have HR860_3 := M0 hi860_3
             have HC860_3 := M0 hl860_3
             clear hi860_3 hl860_3
             replace p860 := eq_true p860
             replace q860 := eq_true q860
             go_wp2_with (((with_reducible refine gate_callee (f := 44) rfl ?_); refine goesL_ (some 77) rfl rfl Try.func44 (by kernel_rfl) rfl #[.slice A0 l0.length c0, .agg #[.int .i64 ((rd_T28 l1_3 x6_1).f0), .int .i64 ((rd_T28 l1_3 x6_1).f1), .int .i64 ((rd_T28 l1_3 x6_1).f2), .slice A860_3 ((rd_T28 l1_3 x6_1).f3).length c860_3], .bool true] rfl (by (simp only [List.map_toArray, List.map_cons, List.map_nil]); rfl) ?_; (with_reducible refine (ih44 k1 (by have := HK1.out; omega) _ _ l0 ((rd_T28 l1_3 x6_1).f0) ((rd_T28 l1_3 x6_1).f1) ((rd_T28 l1_3 x6_1).f2) _ _ ((rd_T28 l1_3 x6_1).f3) true t861 _ ?side1 ?side2 ?side3 ?side4 A52.out).mono ?_); (case side1 => repeat (exact (Kd.C_below HR0.out HB.out))); (case side2 => exact HC0.out); (case side3 => repeat (exact (Kd.C_below HR860_3.out HB.out))); (case side4 => exact HC860_3.out); rintro e w55 ⟨rfl, hb⟩; refine ⟨_, rfl, ?_⟩; replace BK849 := M0 (blk_below BK849.out hb); replace HB := M0 (below_step HB.out hb); clear hb))
             go_roundg k1
             case measure => have := HK1.out; omega
             case rel => exact ⟨(x5_1 ++ t861), (wrap64 (x6_1 + 1)), (by rfl), (by rfl), H', ⟨by have := HK1.out; omega⟩, ⟨by exact BK849.out⟩, ⟨by with_reducible exact HB.out⟩⟩
            ·rw [if_neg c53] at H
             exact absurd H (by simp)
           ·rw [if_neg c51] at H
            exact absurd H (by simp)
         ·rw [if_neg c43] at H
          have c43b0 := decide_eq_false c43
          clear c43
          obtain rfl := Option.some.inj H
          obtain ⟨_, _, _, _, _, _, _, _⟩ := cells4 BK849.out
          go_wp2
          go_ret
          exact ⟨by rfl, by with_reducible exact HB.out⟩
      ·rw [if_neg c40] at H
       have c40b0 := bF c40
       have c40b1 := nT c40
       have H' := M0 H
       clear H
       go_enter Try.func20, Try.ntmps20
       go_wp2_with (((with_reducible refine gate_dst (N := 3) rfl ?_); refine box_event ?hg (N := 3) ?hd (cs := #[.int .i64 a1_0, .int .i64 a1_1, .int .i64 a1_2, .slice A1_3 l1_3.length c1_3]) (t := 28) ?hr ?_; (case hd => rfl); (case hg => rfl); (case hr => (go_simp; done)); intro gb849 hg w57 hbox hb; have BK849 := M0 hbox; replace HB := M0 (below_step HB.out hb); clear hb hbox hg; obtain ⟨hcz58_0, hcz58_1, hcz58_2, hcz58_3, hfz58_0, hfz58_1, hfz58_2, hfz58_3⟩ := cells4 BK849.out))
       go_loopg [5, 7] k (fun kq v5 v7 w' => ∃ (x5_1 : ByteArray) (x7_1 : Int), v5 = .string x5_1 ∧ v7 = .int .i64 x7_1 ∧ Aside0 (canopyref5_Text.l1 kq l0 x5_1 x7_1 a1_0 a1_1 a1_2 l1_3 = some r) ∧ Aside0 (kq ≤ k) ∧ Aside0 (w'.heap[gb849]? = some (.cells #[.int .i64 a1_0, .int .i64 a1_1, .int .i64 a1_2, (.slice A1_3 l1_3.length c1_3)] 28 (0, 0))) ∧ Aside0 (Below w.heap.size w w'))
       case atStart => exact ⟨((⟨#[]⟩ : ByteArray)), (0), (by rfl), (by rfl), H', ⟨Nat.le_refl _⟩, ⟨by exact BK849.out⟩, ⟨by with_reducible exact HB.out⟩⟩
       case round =>
        clear H'
        clear c3 c3b0 c3b1 c6 c6b0 c6b1 c9 c9b0 c9b1 c16 c16b0 c16b1 c33 c33b0 c33b1 c40 c40b0 c40b1 hcz58_0 hcz58_1 hcz58_2 hcz58_3 hfz58_0 hfz58_1 hfz58_2 hfz58_3
        obtain ⟨x5_1, x7_1, rfl, rfl, HA, HK1, BK849, HB⟩ := hrel
        cases gk with
        | zero => exact absurd HA.out (by simp [canopyref5_Text.l1])
        | succ k1 =>
         have H := HA.out
         clear HA
         simp only [canopyref5_Text.l1] at H
         by_cases c59 : x7_1 < (l1_3.length : Int)
         ·rw [if_pos c59] at H
          have c59b0 := decide_eq_true c59
          clear c59
          by_cases c60 : x7_1 > 0
          ·rw [if_pos c60] at H
           have c60b0 : decide (0 < x7_1) = true := decide_eq_true c60
           clear c60
           by_cases c61 : x5_1.size + 3 ≤ 9223372036854775807
           ·rw [if_pos c61] at H
            have c61b0 := eq_true c61
            have c61b1 := decide_eq_true c61
            have c61b2 : (9223372036854775807 < x5_1.size + 3) = False := eq_false (Nat.not_lt.2 c61)
            by_cases c62 : 0 ≤ x7_1
            ·rw [if_pos c62] at H
             have c62b0 := decide_eq_true c62
             clear c62
             replace H := Option.bind_eq_some_iff.mp H
             obtain ⟨t863, A630, H⟩ := H
             try dsimp only at H
             have A63 := M0 A630
             clear A630
             by_cases c64 : (x5_1 ++ (⟨#[32, 124, 32]⟩ : ByteArray)).size + t863.size ≤ 9223372036854775807
             ·rw [if_pos c64] at H
              have c64b3 : (9223372036854775807 < x5_1.size + 3 + t863.size) = False := eq_false (by have z_ := c64; (simp only [ByteArray.size_append] at z_ ⊢); simp only [Nat.not_lt]; exact z_)
              have H' := M0 H
              clear H
              obtain ⟨_, _, _, _, _, _, _, _⟩ := cells4 BK849.out
              have p862 : 0 ≤ (x7_1 : Int) := of_decide_eq_true (by (with_reducible assumption))
              have q862 : x7_1 < (l1_3.length : Int) := of_decide_eq_true (by (with_reducible assumption))
              obtain ⟨ad862, A862_3, c862_3, e862, hx862_0, hx862_1, hx862_2, hx862_3, hl862_3, hi862_3⟩ := at_T28 HR1_3.out x7_1 p862 q862
              cases e862
              replace hx862_0 := (HB.out.cell (World.block_lt_of_cell? w _ hx862_0)).trans hx862_0
              replace hx862_1 := (HB.out.cell (World.block_lt_of_cell? w _ hx862_1)).trans hx862_1
              replace hx862_2 := (HB.out.cell (World.block_lt_of_cell? w _ hx862_2)).trans hx862_2
              replace hx862_3 := (HB.out.cell (World.block_lt_of_cell? w _ hx862_3)).trans hx862_3
              have HR862_3 := M0 hi862_3
              have HC862_3 := M0 hl862_3
              clear hi862_3 hl862_3
              replace p862 := eq_true p862
              replace q862 := eq_true q862
              go_wp2_with (((with_reducible refine gate_callee (f := 44) rfl ?_); refine goesL_ (some 98) rfl rfl Try.func44 (by kernel_rfl) rfl #[.slice A0 l0.length c0, .agg #[.int .i64 ((rd_T28 l1_3 x7_1).f0), .int .i64 ((rd_T28 l1_3 x7_1).f1), .int .i64 ((rd_T28 l1_3 x7_1).f2), .slice A862_3 ((rd_T28 l1_3 x7_1).f3).length c862_3], .bool false] rfl (by (simp only [List.map_toArray, List.map_cons, List.map_nil]); rfl) ?_; (with_reducible refine (ih44 k1 (by have := HK1.out; omega) _ _ l0 ((rd_T28 l1_3 x7_1).f0) ((rd_T28 l1_3 x7_1).f1) ((rd_T28 l1_3 x7_1).f2) _ _ ((rd_T28 l1_3 x7_1).f3) false t863 _ ?side1 ?side2 ?side3 ?side4 A63.out).mono ?_); (case side1 => repeat (exact (Kd.C_below HR0.out HB.out))); (case side2 => exact HC0.out); (case side3 => repeat (exact (Kd.C_below HR862_3.out HB.out))); (case side4 => exact HC862_3.out); rintro e w66 ⟨rfl, hb⟩; refine ⟨_, rfl, ?_⟩; replace BK849 := M0 (blk_below BK849.out hb); replace HB := M0 (below_step HB.out hb); clear hb))
              go_roundg k1
              case measure => have := HK1.out; omega
              case rel => exact ⟨((x5_1 ++ (⟨#[32, 124, 32]⟩ : ByteArray)) ++ t863), (wrap64 (x7_1 + 1)), (by rfl), (by rfl), H', ⟨by have := HK1.out; omega⟩, ⟨by exact BK849.out⟩, ⟨by with_reducible exact HB.out⟩⟩
             ·rw [if_neg c64] at H
              exact absurd H (by simp)
            ·rw [if_neg c62] at H
             exact absurd H (by simp)
           ·rw [if_neg c61] at H
            exact absurd H (by simp)
          ·rw [if_neg c60] at H
           have c60b0 : decide (0 < x7_1) = false := decide_eq_false c60
           clear c60
           by_cases c67 : 0 ≤ x7_1
           ·rw [if_pos c67] at H
            have c67b0 := decide_eq_true c67
            clear c67
            replace H := Option.bind_eq_some_iff.mp H
            obtain ⟨t865, A680, H⟩ := H
            try dsimp only at H
            have A68 := M0 A680
            clear A680
            by_cases c69 : x5_1.size + t865.size ≤ 9223372036854775807
            ·rw [if_pos c69] at H
             have c69b2 : (9223372036854775807 < x5_1.size + t865.size) = False := eq_false (Nat.not_lt.2 c69)
             have H' := M0 H
             clear H
             obtain ⟨_, _, _, _, _, _, _, _⟩ := cells4 BK849.out
             have p864 : 0 ≤ (x7_1 : Int) := of_decide_eq_true (by (with_reducible assumption))
             have q864 : x7_1 < (l1_3.length : Int) := of_decide_eq_true (by (with_reducible assumption))
             obtain ⟨ad864, A864_3, c864_3, e864, hx864_0, hx864_1, hx864_2, hx864_3, hl864_3, hi864_3⟩ := at_T28 HR1_3.out x7_1 p864 q864
             cases e864
             replace hx864_0 := (HB.out.cell (World.block_lt_of_cell? w _ hx864_0)).trans hx864_0
             replace hx864_1 := (HB.out.cell (World.block_lt_of_cell? w _ hx864_1)).trans hx864_1
             replace hx864_2 := (HB.out.cell (World.block_lt_of_cell? w _ hx864_2)).trans hx864_2
             replace hx864_3 := (HB.out.cell (World.block_lt_of_cell? w _ hx864_3)).trans hx864_3
             have HR864_3 := M0 hi864_3
             have HC864_3 := M0 hl864_3
             clear hi864_3 hl864_3
             replace p864 := eq_true p864
             replace q864 := eq_true q864
             go_wp2_with (((with_reducible refine gate_callee (f := 44) rfl ?_); refine goesL_ (some 98) rfl rfl Try.func44 (by kernel_rfl) rfl #[.slice A0 l0.length c0, .agg #[.int .i64 ((rd_T28 l1_3 x7_1).f0), .int .i64 ((rd_T28 l1_3 x7_1).f1), .int .i64 ((rd_T28 l1_3 x7_1).f2), .slice A864_3 ((rd_T28 l1_3 x7_1).f3).length c864_3], .bool false] rfl (by (simp only [List.map_toArray, List.map_cons, List.map_nil]); rfl) ?_; (with_reducible refine (ih44 k1 (by have := HK1.out; omega) _ _ l0 ((rd_T28 l1_3 x7_1).f0) ((rd_T28 l1_3 x7_1).f1) ((rd_T28 l1_3 x7_1).f2) _ _ ((rd_T28 l1_3 x7_1).f3) false t865 _ ?side1 ?side2 ?side3 ?side4 A68.out).mono ?_); (case side1 => repeat (exact (Kd.C_below HR0.out HB.out))); (case side2 => exact HC0.out); (case side3 => repeat (exact (Kd.C_below HR864_3.out HB.out))); (case side4 => exact HC864_3.out); rintro e w71 ⟨rfl, hb⟩; refine ⟨_, rfl, ?_⟩; replace BK849 := M0 (blk_below BK849.out hb); replace HB := M0 (below_step HB.out hb); clear hb))
             go_roundg k1
             case measure => have := HK1.out; omega
             case rel => exact ⟨(x5_1 ++ t865), (wrap64 (x7_1 + 1)), (by rfl), (by rfl), H', ⟨by have := HK1.out; omega⟩, ⟨by exact BK849.out⟩, ⟨by with_reducible exact HB.out⟩⟩
            ·rw [if_neg c69] at H
             exact absurd H (by simp)
           ·rw [if_neg c67] at H
            exact absurd H (by simp)
         ·rw [if_neg c59] at H
          have c59b0 := decide_eq_false c59
          clear c59
          obtain rfl := Option.some.inj H
          obtain ⟨_, _, _, _, _, _, _, _⟩ := cells4 BK849.out
          go_wp2
          go_ret
          exact ⟨by rfl, by with_reducible exact HB.out⟩

end Go.Proofs.Ytodbnnfiadcbaaa.P
namespace Go.Proofs.Ytodbnnfiadcbaaa.P
open Go.RowKit Go.Proofs.YtodbnnfiadcbaaaW.PrintWords Go.Proofs.YtodbnnfiadcbaaaW.PrintLast Go.Proofs.YtodbnnfiadcbaaaW.PrintMore
attribute [local go_sem] max2_int min2_int max_two min_two max_three min_three max_four min_four   -- for this text's walks alone
set_option linter.unusedVariables false
set_option linter.unusedSimpArgs false

theorem canopyref5_Text.all_g : ∀ k, canopyref5_held.S k ∧ canopyref5_Text.S k := by
 intro k
 induction k using Nat.strongRecOn with
 | _ k ih =>
 exact ⟨canopyref5_held.step k (fun m hm => (ih m hm).2) (fun m hm => (ih m hm).1), canopyref5_Text.step k (fun m hm => (ih m hm).2) (fun m hm => (ih m hm).1)⟩
theorem canopyref5_held.calls (k : Nat) : ∀ (A0 : Option Addr) (c0 : Nat) (l0 : List (S56)) (a1_0 : Int) (a1_1 : Int) (a1_2 : Int) (A1_3 : Option Addr) (c1_3 : Nat) (l1_3 : List (S28)) (a2 : Bool) (r : ByteArray) (w : World) (hr0 : Kd.C k56 w A0 l0.length l0) (hc0 : l0.length ≤ c0) (hr1_3 : Kd.C k28 w A1_3 l1_3.length l1_3) (hc1_3 : l1_3.length ≤ c1_3) (h : canopyref5_held.f k l0 a1_0 a1_1 a1_2 l1_3 a2 = some r),
  Calls Try.prog 44 #[.slice A0 l0.length c0, .agg #[.int .i64 a1_0, .int .i64 a1_1, .int .i64 a1_2, .slice A1_3 l1_3.length c1_3], .bool a2] w fun e w' => e = .returned (.string r) ∧ Below w.heap.size w w' := (canopyref5_Text.all_g k).1
theorem canopyref5_Text.calls (k : Nat) : ∀ (A0 : Option Addr) (c0 : Nat) (l0 : List (S56)) (a1_0 : Int) (a1_1 : Int) (a1_2 : Int) (A1_3 : Option Addr) (c1_3 : Nat) (l1_3 : List (S28)) (r : ByteArray) (w : World) (hr0 : Kd.C k56 w A0 l0.length l0) (hc0 : l0.length ≤ c0) (hr1_3 : Kd.C k28 w A1_3 l1_3.length l1_3) (hc1_3 : l1_3.length ≤ c1_3) (h : canopyref5_Text.f k l0 a1_0 a1_1 a1_2 l1_3 = some r),
  Calls Try.prog 20 #[.slice A0 l0.length c0, .agg #[.int .i64 a1_0, .int .i64 a1_1, .int .i64 a1_2, .slice A1_3 l1_3.length c1_3]] w fun e w' => e = .returned (.string r) ∧ Below w.heap.size w w' := (canopyref5_Text.all_g k).2

end Go.Proofs.Ytodbnnfiadcbaaa.P
namespace Go.Proofs.Ytodbnnfiadcbaaa.P
open Go.RowKit Go.Proofs.YtodbnnfiadcbaaaW.PrintWords Go.Proofs.YtodbnnfiadcbaaaW.PrintLast Go.Proofs.YtodbnnfiadcbaaaW.PrintMore Go.Proofs.YtodbnnfiadcbaaaH
attribute [local go_sem] max2_int min2_int max_two min_two max_three min_three max_four min_four   -- for this text's walks alone
set_option linter.unusedVariables false
set_option linter.unusedSimpArgs false

/-! ### canopyref5_Same: function 21 -/
mutual
def canopyref5_Same.j0 : Nat → Bool → Int → Int → Int → List (S28) → Int → Int → Int → List (S28) → Option (Bool)
 | 0, _, _, _, _, _, _, _, _, _ => none
 | k + 1, x33, x867000, x867001, x867002, x867003, x868000, x868001, x868002, x868003 => if x33 = true then (some false) else (canopyref5_Same.l0 k 0 x867000 x867001 x867002 x867003 x868000 x868001 x868002 x868003)
def canopyref5_Same.l0 : Nat → Int → Int → Int → Int → List (S28) → Int → Int → Int → List (S28) → Option (Bool)
 | 0, _, _, _, _, _, _, _, _, _ => none
 | k + 1, x5, x867000, x867001, x867002, x867003, x868000, x868001, x868002, x868003 => if x5 < (x867003.length : Int) then (if 0 ≤ x5 then (if x5 < (x868003.length : Int) then ((canopyref5_Same.f k ((rd_T28 x867003 x5).f0) ((rd_T28 x867003 x5).f1) ((rd_T28 x867003 x5).f2) ((rd_T28 x867003 x5).f3) ((rd_T28 x868003 x5).f0) ((rd_T28 x868003 x5).f1) ((rd_T28 x868003 x5).f2) ((rd_T28 x868003 x5).f3)).bind fun t870 => (if t870 = true then (canopyref5_Same.l0 k (wrap64 (x5 + 1)) x867000 x867001 x867002 x867003 x868000 x868001 x868002 x868003) else (some false))) else (none)) else (none)) else (some true)
def canopyref5_Same.f : Nat → Int → Int → Int → List (S28) → Int → Int → Int → List (S28) → Option (Bool)
 | 0, _, _, _, _, _, _, _, _ => none
 | k + 1, a0_0, a0_1, a0_2, l0_3, a1_0, a1_1, a1_2, l1_3 => if a0_0 = a1_0 then (if a0_1 = a1_1 then (if a0_2 = a1_2 then (canopyref5_Same.j0 k ((l0_3.length : Int) != (l1_3.length : Int)) a0_0 a0_1 a0_2 l0_3 a1_0 a1_1 a1_2 l1_3) else (canopyref5_Same.j0 k true a0_0 a0_1 a0_2 l0_3 a1_0 a1_1 a1_2 l1_3)) else (canopyref5_Same.j0 k true a0_0 a0_1 a0_2 l0_3 a1_0 a1_1 a1_2 l1_3)) else (canopyref5_Same.j0 k true a0_0 a0_1 a0_2 l0_3 a1_0 a1_1 a1_2 l1_3)
end
theorem canopyref5_Same.mono_l : ∀ k, (∀ y0 y1 y2 y3 y4 y5 y6 y7, LeO (canopyref5_Same.f k y0 y1 y2 y3 y4 y5 y6 y7) (canopyref5_Same.f (k + 1) y0 y1 y2 y3 y4 y5 y6 y7)) ∧ (∀ y0 y1 y2 y3 y4 y5 y6 y7 y8, LeO (canopyref5_Same.j0 k y0 y1 y2 y3 y4 y5 y6 y7 y8) (canopyref5_Same.j0 (k + 1) y0 y1 y2 y3 y4 y5 y6 y7 y8)) ∧ (∀ y0 y1 y2 y3 y4 y5 y6 y7 y8, LeO (canopyref5_Same.l0 k y0 y1 y2 y3 y4 y5 y6 y7 y8) (canopyref5_Same.l0 (k + 1) y0 y1 y2 y3 y4 y5 y6 y7 y8))
 | 0 => ⟨fun _ _ _ _ _ _ _ _ r h => by simp [canopyref5_Same.f] at h, fun _ _ _ _ _ _ _ _ _ r h => by simp [canopyref5_Same.j0] at h, fun _ _ _ _ _ _ _ _ _ r h => by simp [canopyref5_Same.l0] at h⟩
 | k + 1 => by
  obtain ⟨ih0, ih1, ih2⟩ := canopyref5_Same.mono_l k
  refine ⟨?_, ?_, ?_⟩
  ·intro y0 y1 y2 y3 y4 y5 y6 y7
   unfold canopyref5_Same.f
   repeat' first
   | (with_reducible exact ih1 _ _ _ _ _ _ _ _ _)
   | (with_reducible refine LeO.ite ?_ ?_)
  ·intro y0 y1 y2 y3 y4 y5 y6 y7 y8
   unfold canopyref5_Same.j0
   repeat' first
   | (with_reducible exact ih2 _ _ _ _ _ _ _ _ _)
   | (with_reducible exact LeO.refl _)
   | (with_reducible refine LeO.ite ?_ ?_)
  ·intro y0 y1 y2 y3 y4 y5 y6 y7 y8
   unfold canopyref5_Same.l0
   repeat' first
   | (with_reducible exact ih0 _ _ _ _ _ _ _ _)
   | (with_reducible exact ih2 _ _ _ _ _ _ _ _ _)
   | (with_reducible exact LeO.refl _)
   | (with_reducible refine LeO.ite ?_ ?_)
   | (with_reducible refine LeO.bind ?_ (fun _ => ?_))
theorem canopyref5_Same.mono : ∀ a0 a1 a2 a3 a4 a5 a6 a7 k, LeO (canopyref5_Same.f k a0 a1 a2 a3 a4 a5 a6 a7) (canopyref5_Same.f (k + 1) a0 a1 a2 a3 a4 a5 a6 a7) := by
 intro a0 a1 a2 a3 a4 a5 a6 a7 k
 obtain ⟨ih0, ih1, ih2⟩ := canopyref5_Same.mono_l k
 exact ih0 a0 a1 a2 a3 a4 a5 a6 a7
def canopyref5_Same.T6 : Bool × List (List Nat × List Nat) := (true, [([], []), ([0], [0]), ([], []), ([1, 2], [1, 2]), ([3], [3]), ([], []), ([5], [5]), ([], []), ([6, 7], [6, 7]), ([8], [8]), ([4, 9], [4, 9]), ([10], [10])])
def canopyref5_Same.B6 : List Nat := [0, 1, 0, 7, 15, 0, 32, 0, 224, 480, 1023, 2047]
theorem canopyref5_Same.tab6 : rtab .any (opsOf Try.f21 6) = canopyref5_Same.T6 := by kernel_rfl
theorem canopyref5_Same.bits6 : waitsOk canopyref5_Same.T6.2 canopyref5_Same.B6 = true := by kernel_rfl
set_option maxHeartbeats 8000000 in
set_option maxRecDepth 100000 in
theorem canopyref5_Same.calls (k : Nat) : ∀ (a0_0 : Int) (a0_1 : Int) (a0_2 : Int) (A0_3 : Option Addr) (c0_3 : Nat) (l0_3 : List (S28)) (a1_0 : Int) (a1_1 : Int) (a1_2 : Int) (A1_3 : Option Addr) (c1_3 : Nat) (l1_3 : List (S28)) (r : Bool) (w : World) (hr0_3 : Kd.C k28 w A0_3 l0_3.length l0_3) (hc0_3 : l0_3.length ≤ c0_3) (hr1_3 : Kd.C k28 w A1_3 l1_3.length l1_3) (hc1_3 : l1_3.length ≤ c1_3) (h : canopyref5_Same.f k a0_0 a0_1 a0_2 l0_3 a1_0 a1_1 a1_2 l1_3 = some r),
  Calls Try.prog 21 #[.agg #[.int .i64 a0_0, .int .i64 a0_1, .int .i64 a0_2, .slice A0_3 l0_3.length c0_3], .agg #[.int .i64 a1_0, .int .i64 a1_1, .int .i64 a1_2, .slice A1_3 l1_3.length c1_3]] w fun e w' => e = .returned (.bool r) ∧ Below w.heap.size w w' := by
 induction k using Nat.strongRecOn with
 | _ k ih =>
 intro a0_0 a0_1 a0_2 A0_3 c0_3 l0_3 a1_0 a1_1 a1_2 A1_3 c1_3 l1_3 r w hr0_3 hc0_3 hr1_3 hc1_3 h
 cases k with
 | zero => exact absurd h (by simp [canopyref5_Same.f])
 | succ k =>
 simp only [canopyref5_Same.f] at h
 have HR0_3 := M0 hr0_3
 clear hr0_3 hc0_3
 have HR1_3 := M0 hr1_3
 clear hr1_3 hc1_3
 have HB := M0 (Below.refl w.heap.size w)
 have H : (if a0_0 = a1_0 then (if a0_1 = a1_1 then (if a0_2 = a1_2 then (canopyref5_Same.j0 k ((l0_3.length : Int) != (l1_3.length : Int)) a0_0 a0_1 a0_2 l0_3 a1_0 a1_1 a1_2 l1_3) else (canopyref5_Same.j0 k true a0_0 a0_1 a0_2 l0_3 a1_0 a1_1 a1_2 l1_3)) else (canopyref5_Same.j0 k true a0_0 a0_1 a0_2 l0_3 a1_0 a1_1 a1_2 l1_3)) else (canopyref5_Same.j0 k true a0_0 a0_1 a0_2 l0_3 a1_0 a1_1 a1_2 l1_3)) = some r := h
 clear h
 have HC3 := M0 H
 clear H
 go_enter Try.func21, Try.ntmps21
 go_upto_region 1 with (first | ((with_reducible refine gate_dst (N := 2) rfl ?_); refine box_event ?hg (N := 2) ?hd (cs := #[.int .i64 a0_0, .int .i64 a0_1, .int .i64 a0_2, .slice A0_3 l0_3.length c0_3]) (t := 28) ?hr ?_; (case hd => rfl); (case hg => rfl); (case hr => (go_simp; done)); intro gb866 hg w4 hbox hb; have BK866 := M0 hbox; replace HB := M0 (below_step HB.out hb); clear hb hbox hg) | ((with_reducible refine gate_dst (N := 3) rfl ?_); refine box_event ?hg (N := 3) ?hd (cs := #[.int .i64 a1_0, .int .i64 a1_1, .int .i64 a1_2, .slice A1_3 l1_3.length c1_3]) (t := 28) ?hr ?_; (case hd => rfl); (case hg => rfl); (case hr => (go_simp; done)); intro gb867 hg w5 hbox hb; have BK867 := M0 hbox; replace HB := M0 (below_step HB.out hb); replace BK866 := M0 (blk_below BK866.out hb); clear hb hbox hg))
 (skip)
 go_cut [33] (fun v33 wc => ∃ (kq : Nat) (x33_2 : Bool), v33 = .bool x33_2 ∧ Aside0 (canopyref5_Same.j0 kq x33_2 a0_0 a0_1 a0_2 l0_3 a1_0 a1_1 a1_2 l1_3 = some r) ∧ Aside0 (kq ≤ k) ∧ Aside0 (wc.heap[gb866]? = some (.cells #[.int .i64 a0_0, .int .i64 a0_1, .int .i64 a0_2, (.slice A0_3 l0_3.length c0_3)] 28 (0, 0))) ∧ Aside0 (wc.heap[gb867]? = some (.cells #[.int .i64 a1_0, .int .i64 a1_1, .int .i64 a1_2, (.slice A1_3 l1_3.length c1_3)] 28 (0, 0))) ∧ Aside0 (Below w.heap.size w wc))
 case first =>
  have H := HC3.out
  clear HC3
  by_cases c6 : a0_0 = a1_0
  ·rw [if_pos c6] at H
   have c6b0 := bT c6
   have c6b1 := nF c6
   clear c6
   (skip)
   by_cases c7 : a0_1 = a1_1
   ·rw [if_pos c7] at H
    have c7b0 := bT c7
    have c7b1 := nF c7
    clear c7
    by_cases c8 : a0_2 = a1_2
    ·rw [if_pos c8] at H
     have c8b1 := nF c8
     clear c8
     have H' := M0 H
     clear H
     obtain ⟨_, _, _, _, _, _, _, _⟩ := cells4 BK866.out
     obtain ⟨_, _, _, _, _, _, _, _⟩ := cells4 BK867.out
     go_wp2
     go_meet
     case rel => exact ⟨_, (((l0_3.length : Int) != (l1_3.length : Int))), (by rfl), H', ⟨by omega⟩, ⟨by exact BK866.out⟩, ⟨by exact BK867.out⟩, ⟨by with_reducible exact HB.out⟩⟩
    ·rw [if_neg c8] at H
     have c8b1 := nT c8
     have H' := M0 H
     clear H
     obtain ⟨_, _, _, _, _, _, _, _⟩ := cells4 BK866.out
     obtain ⟨_, _, _, _, _, _, _, _⟩ := cells4 BK867.out
     go_wp2
     go_meet
     case rel => exact ⟨_, (true), (by rfl), H', ⟨by omega⟩, ⟨by exact BK866.out⟩, ⟨by exact BK867.out⟩, ⟨by with_reducible exact HB.out⟩⟩
   ·rw [if_neg c7] at H
    have c7b1 := nT c7
    have H' := M0 H
    clear H
    obtain ⟨_, _, _, _, _, _, _, _⟩ := cells4 BK866.out
    obtain ⟨_, _, _, _, _, _, _, _⟩ := cells4 BK867.out
    go_wp2
    go_meet
    case rel => exact ⟨_, (true), (by rfl), H', ⟨by omega⟩, ⟨by exact BK866.out⟩, ⟨by exact BK867.out⟩, ⟨by with_reducible exact HB.out⟩⟩
  ·rw [if_neg c6] at H
   have c6b1 := nT c6
   (skip)
   have H' := M0 H
   clear H
   obtain ⟨_, _, _, _, _, _, _, _⟩ := cells4 BK866.out
   obtain ⟨_, _, _, _, _, _, _, _⟩ := cells4 BK867.out
   go_wp2
   go_meet
   case rel => exact ⟨_, (true), (by rfl), H', ⟨by omega⟩, ⟨by exact BK866.out⟩, ⟨by exact BK867.out⟩, ⟨by with_reducible exact HB.out⟩⟩
 case rest =>
  clear HC3
  obtain ⟨kq, x33_2, rfl, HA, HJ2, BK866, BK867, HB⟩ := hcut
  cases kq with
  | zero => exact absurd HA.out (by simp [canopyref5_Same.j0])
  | succ kj2 =>
   have H := HA.out
   clear HA
   simp only [canopyref5_Same.j0] at H
   by_cases c21 : x33_2 = true
   ·subst c21
    rw [if_pos rfl] at H
    obtain rfl := Option.some.inj H
    go_wp2
    go_ret
    exact ⟨by rfl, by with_reducible exact HB.out⟩
   ·replace c21 := Bool.eq_false_iff.mpr c21
    subst c21
    rw [if_neg (show ¬ (false = true) by decide)] at H
    have H' := M0 H
    clear H
    go_wp2
    go_loopg [5] kj2 (fun kq v5 w' => ∃ (x5_2 : Int), v5 = .int .i64 x5_2 ∧ Aside0 (canopyref5_Same.l0 kq x5_2 a0_0 a0_1 a0_2 l0_3 a1_0 a1_1 a1_2 l1_3 = some r) ∧ Aside0 (kq ≤ kj2) ∧ Aside0 (w'.heap[gb866]? = some (.cells #[.int .i64 a0_0, .int .i64 a0_1, .int .i64 a0_2, (.slice A0_3 l0_3.length c0_3)] 28 (0, 0))) ∧ Aside0 (w'.heap[gb867]? = some (.cells #[.int .i64 a1_0, .int .i64 a1_1, .int .i64 a1_2, (.slice A1_3 l1_3.length c1_3)] 28 (0, 0))) ∧ Aside0 (Below w.heap.size w w'))
    case atStart => exact ⟨(0), (by rfl), H', ⟨Nat.le_refl _⟩, ⟨by exact BK866.out⟩, ⟨by exact BK867.out⟩, ⟨by with_reducible exact HB.out⟩⟩
    case round =>
     clear H'
     obtain ⟨x5_2, rfl, HA, HK2, BK866, BK867, HB⟩ := hrel
     cases gk with
     | zero => exact absurd HA.out (by simp [canopyref5_Same.l0])
     | succ k2 =>
      have H := HA.out
      clear HA
      simp only [canopyref5_Same.l0] at H
      by_cases c22 : x5_2 < (l0_3.length : Int)
      ·rw [if_pos c22] at H
       have c22b0 := decide_eq_true c22
       clear c22
       by_cases c23 : 0 ≤ x5_2
       ·rw [if_pos c23] at H
        have c23b0 := decide_eq_true c23
        clear c23
        by_cases c24 : x5_2 < (l1_3.length : Int)
        ·rw [if_pos c24] at H
         have c24b0 := decide_eq_true c24
         clear c24
         replace H := Option.bind_eq_some_iff.mp H
         obtain ⟨t870, A250, H⟩ := H
         try dsimp only at H
         have A25 := M0 A250
         clear A250
         by_cases c26 : t870 = true
         ·subst c26
          rw [if_pos rfl] at H
          have H' := M0 H
          clear H
          obtain ⟨_, _, _, _, _, _, _, _⟩ := cells4 BK866.out
          go_wp2
          have n0_ := M0 (blk_drew BK866.out)
          have n1_ := M0 (blk_drew BK867.out)
          have n2_ := M0 (below_drew1 HB.out)
          clear BK866 BK867 HB
          have BK866 := n0_
          have BK867 := n1_
          have HB := n2_
          clear n0_ n1_ n2_
          have p868 : 0 ≤ (x5_2 : Int) := of_decide_eq_true (by (with_reducible assumption))
          have q868 : x5_2 < (l0_3.length : Int) := of_decide_eq_true (by (with_reducible assumption))
          obtain ⟨ad868, A868_3, c868_3, e868, hx868_0, hx868_1, hx868_2, hx868_3, hl868_3, hi868_3⟩ := at_T28 HR0_3.out x5_2 p868 q868
          have hw868_3 := hx868_3
          have hw868_2 := hx868_2
          have hw868_1 := hx868_1
          have hw868_0 := hx868_0
          cases e868
          replace hx868_0 := (HB.out.cell (World.block_lt_of_cell? w _ hx868_0)).trans hx868_0
          replace hx868_1 := (HB.out.cell (World.block_lt_of_cell? w _ hx868_1)).trans hx868_1
          replace hx868_2 := (HB.out.cell (World.block_lt_of_cell? w _ hx868_2)).trans hx868_2
          replace hx868_3 := (HB.out.cell (World.block_lt_of_cell? w _ hx868_3)).trans hx868_3
          have HR868_3 := M0 hi868_3
          have HC868_3 := M0 hl868_3
          clear hi868_3 hl868_3
          replace p868 := eq_true p868
          replace q868 := eq_true q868
          have p869 : 0 ≤ (x5_2 : Int) := of_decide_eq_true (by (with_reducible assumption))
          have q869 : x5_2 < (l1_3.length : Int) := of_decide_eq_true (by (with_reducible assumption))
          obtain ⟨ad869, A869_3, c869_3, e869, hx869_0, hx869_1, hx869_2, hx869_3, hl869_3, hi869_3⟩ := at_T28 HR1_3.out x5_2 p869 q869
          have hw869_3 := hx869_3
          have hw869_2 := hx869_2
          have hw869_1 := hx869_1
          have hw869_0 := hx869_0
          cases e869
          replace hx869_0 := (HB.out.cell (World.block_lt_of_cell? w _ hx869_0)).trans hx869_0
          replace hx869_1 := (HB.out.cell (World.block_lt_of_cell? w _ hx869_1)).trans hx869_1
          replace hx869_2 := (HB.out.cell (World.block_lt_of_cell? w _ hx869_2)).trans hx869_2
          replace hx869_3 := (HB.out.cell (World.block_lt_of_cell? w _ hx869_3)).trans hx869_3
          have HR869_3 := M0 hi869_3
          have HC869_3 := M0 hl869_3
          clear hi869_3 hl869_3
          clear p869
          replace q869 := eq_true q869
          refine start_ (n := 12) (S := fun w' => w'.cell? ⟨gb866, 0, none⟩ = some (.int .i64 a0_0) ∧ w'.cell? ⟨gb866, 1, none⟩ = some (.int .i64 a0_1) ∧ w'.cell? ⟨gb866, 2, none⟩ = some (.int .i64 a0_2) ∧ w'.cell? ⟨gb866, 3, none⟩ = some (.slice (some ad868) l0_3.length c0_3) ∧ w'.cell? ⟨gb867, 0, none⟩ = some (.int .i64 a1_0) ∧ w'.cell? ⟨gb867, 1, none⟩ = some (.int .i64 a1_1) ∧ w'.cell? ⟨gb867, 2, none⟩ = some (.int .i64 a1_2) ∧ w'.cell? ⟨gb867, 3, none⟩ = some (.slice (some ad869) l1_3.length c1_3) ∧ w'.cell? (ad868.add ((x5_2).toNat * 4)) = some (.int .i64 ((rd_T28 l0_3 x5_2).f0)) ∧ w'.cell? ⟨(ad868.add ((x5_2).toNat * 4)).block, (ad868.add ((x5_2).toNat * 4)).off + 1, none⟩ = some (.int .i64 ((rd_T28 l0_3 x5_2).f1)) ∧ w'.cell? ⟨(ad868.add ((x5_2).toNat * 4)).block, (ad868.add ((x5_2).toNat * 4)).off + 2, none⟩ = some (.int .i64 ((rd_T28 l0_3 x5_2).f2)) ∧ w'.cell? ⟨(ad868.add ((x5_2).toNat * 4)).block, (ad868.add ((x5_2).toNat * 4)).off + 3, none⟩ = some (.slice A868_3 ((rd_T28 l0_3 x5_2).f3).length c868_3) ∧ w'.cell? (ad869.add ((x5_2).toNat * 4)) = some (.int .i64 ((rd_T28 l1_3 x5_2).f0)) ∧ w'.cell? ⟨(ad869.add ((x5_2).toNat * 4)).block, (ad869.add ((x5_2).toNat * 4)).off + 1, none⟩ = some (.int .i64 ((rd_T28 l1_3 x5_2).f1)) ∧ w'.cell? ⟨(ad869.add ((x5_2).toNat * 4)).block, (ad869.add ((x5_2).toNat * 4)).off + 2, none⟩ = some (.int .i64 ((rd_T28 l1_3 x5_2).f2)) ∧ w'.cell? ⟨(ad869.add ((x5_2).toNat * 4)).block, (ad869.add ((x5_2).toNat * 4)).off + 3, none⟩ = some (.slice A869_3 ((rd_T28 l1_3 x5_2).f3).length c869_3)) (ds := []) #[false, false, false, false, false, false, false, false, false, false, false, false] (by kernel_rfl) rfl rfl ⟨(blk_cell BK866.out 0).trans rfl, (blk_cell BK866.out 1).trans rfl, (blk_cell BK866.out 2).trans rfl, (blk_cell BK866.out 3).trans rfl, (blk_cell BK867.out 0).trans rfl, (blk_cell BK867.out 1).trans rfl, (blk_cell BK867.out 2).trans rfl, (blk_cell BK867.out 3).trans rfl, ((HB.out.cell (World.block_lt_of_cell? w _ hw868_0)).trans hw868_0), ((HB.out.cell (World.block_lt_of_cell? w _ hw868_1)).trans hw868_1), ((HB.out.cell (World.block_lt_of_cell? w _ hw868_2)).trans hw868_2), ((HB.out.cell (World.block_lt_of_cell? w _ hw868_3)).trans hw868_3), ((HB.out.cell (World.block_lt_of_cell? w _ hw869_0)).trans hw869_0), ((HB.out.cell (World.block_lt_of_cell? w _ hw869_1)).trans hw869_1), ((HB.out.cell (World.block_lt_of_cell? w _ hw869_2)).trans hw869_2), ((HB.out.cell (World.block_lt_of_cell? w _ hw869_3)).trans hw869_3)⟩ (fun hHeld => ?_); refine with_tabW canopyref5_Same.tab6 canopyref5_Same.bits6 (fun HT_ HW_ => ?_)
          generalize wr.drew = w29 at BK866 BK867 HB HR868_3 HR869_3 hx868_0 hx868_1 hx868_2 hx868_3 hx869_0 hx869_1 hx869_2 hx869_3 hHeld ⊢
          refine pure_ (i := 0) (N := some 41) (v := ?_) (a' := ?_) #[true, false, false, false, false, false, false, false, false, false, false, false] rfl rfl (any_of HT_.out (by kernel_rfl)) (fun _ _ _ h => h) (Or.inl ⟨by rfl, ?_⟩) ?_ ?_
          rotate_left
          ·intro w'
           go_simp
           with_reducible rfl
          rotate_left
          ·simp only [Act.put, List.setIfInBounds_toArray, List.set_cons_zero, List.set_cons_succ, i64_w, i32_w]
           rfl
          refine pure_ (i := 2) (N := some 43) (v := ?_) (a' := ?_) #[true, false, true, false, false, false, false, false, false, false, false, false] rfl rfl (any_of HT_.out (by kernel_rfl)) (fun _ _ _ h => h) (Or.inl ⟨by rfl, ?_⟩) ?_ ?_
          rotate_left
          ·intro w'
           go_simp
           with_reducible rfl
          rotate_left
          ·simp only [Act.put, List.setIfInBounds_toArray, List.set_cons_zero, List.set_cons_succ, i64_w, i32_w]
           rfl
          refine pure_ (i := 5) (N := some 46) (v := ?_) (a' := ?_) #[true, false, true, false, false, true, false, false, false, false, false, false] rfl rfl (any_of HT_.out (by kernel_rfl)) (fun _ _ _ h => h) (Or.inl ⟨by rfl, ?_⟩) ?_ ?_
          rotate_left
          ·intro w'
           go_simp
           with_reducible rfl
          rotate_left
          ·simp only [Act.put, List.setIfInBounds_toArray, List.set_cons_zero, List.set_cons_succ, i64_w, i32_w]
           rfl
          refine pure_ (i := 7) (N := some 48) (v := ?_) (a' := ?_) #[true, false, true, false, false, true, false, true, false, false, false, false] rfl rfl (any_of HT_.out (by kernel_rfl)) (fun _ _ _ h => h) (Or.inl ⟨by rfl, ?_⟩) ?_ ?_
          rotate_left
          ·intro w'
           go_simp
           with_reducible rfl
          rotate_left
          ·simp only [Act.put, List.setIfInBounds_toArray, List.set_cons_zero, List.set_cons_succ, i64_w, i32_w]
           rfl
          refine take_ (i := 1) (N := some 42) (v := ?_) (a' := ?_) #[true, true, true, false, false, true, false, true, false, false, false, false] rfl rfl (take_ofW HT_.out HW_.out (by kernel_rfl)) (fun _ _ _ h => h) (Or.inl ⟨by rfl, ?_⟩) hHeld ?_ ?_
          rotate_left
          ·rintro w' ⟨s0, s1, s2, s3, s4, s5, s6, s7, s8, s9, s10, s11, s12, s13, s14, s15⟩
           go_simp
           with_reducible rfl
          rotate_left
          ·simp only [Act.put, List.setIfInBounds_toArray, List.set_cons_zero, List.set_cons_succ, i64_w, i32_w]
           rfl
          refine pure_ (i := 3) (N := some 44) (v := ?_) (a' := ?_) #[true, true, true, true, false, true, false, true, false, false, false, false] rfl rfl (any_of HT_.out (by kernel_rfl)) (fun _ _ _ h => h) (Or.inl ⟨by rfl, ?_⟩) ?_ ?_
          rotate_left
          ·intro w'
           go_simp
           with_reducible rfl
          rotate_left
          ·simp only [Act.put, List.setIfInBounds_toArray, List.set_cons_zero, List.set_cons_succ, i64_w, i32_w]
           rfl
          refine take_ (i := 4) (N := some 45) (v := ?_) (a' := ?_) #[true, true, true, true, true, true, false, true, false, false, false, false] rfl rfl (take_ofW HT_.out HW_.out (by kernel_rfl)) (fun _ _ _ h => h) (Or.inl ⟨by rfl, ?_⟩) hHeld ?_ ?_
          rotate_left
          ·rintro w' ⟨s0, s1, s2, s3, s4, s5, s6, s7, s8, s9, s10, s11, s12, s13, s14, s15⟩
           go_simp
           with_reducible rfl
          rotate_left
          ·simp only [Act.put, List.setIfInBounds_toArray, List.set_cons_zero, List.set_cons_succ, i64_w, i32_w]
           rfl
          refine take_ (i := 6) (N := some 47) (v := ?_) (a' := ?_) #[true, true, true, true, true, true, true, true, false, false, false, false] rfl rfl (take_ofW HT_.out HW_.out (by kernel_rfl)) (fun _ _ _ h => h) (Or.inl ⟨by rfl, ?_⟩) hHeld ?_ ?_
          rotate_left
          ·rintro w' ⟨s0, s1, s2, s3, s4, s5, s6, s7, s8, s9, s10, s11, s12, s13, s14, s15⟩
           go_simp
           with_reducible rfl
          rotate_left
          ·simp only [Act.put, List.setIfInBounds_toArray, List.set_cons_zero, List.set_cons_succ, i64_w, i32_w]
           rfl
          refine pure_ (i := 8) (N := some 49) (v := ?_) (a' := ?_) #[true, true, true, true, true, true, true, true, true, false, false, false] rfl rfl (any_of HT_.out (by kernel_rfl)) (fun _ _ _ h => h) (Or.inl ⟨by rfl, ?_⟩) ?_ ?_
          rotate_left
          ·intro w'
           go_simp
           with_reducible rfl
          rotate_left
          ·simp only [Act.put, List.setIfInBounds_toArray, List.set_cons_zero, List.set_cons_succ, i64_w, i32_w]
           rfl
          refine take_ (i := 9) (N := some 50) (v := ?_) (a' := ?_) #[true, true, true, true, true, true, true, true, true, true, false, false] rfl rfl (take_ofW HT_.out HW_.out (by kernel_rfl)) (fun _ _ _ h => h) (Or.inl ⟨by rfl, ?_⟩) hHeld ?_ ?_
          rotate_left
          ·rintro w' ⟨s0, s1, s2, s3, s4, s5, s6, s7, s8, s9, s10, s11, s12, s13, s14, s15⟩
           go_simp
           with_reducible rfl
          rotate_left
          ·simp only [Act.put, List.setIfInBounds_toArray, List.set_cons_zero, List.set_cons_succ, i64_w, i32_w]
           rfl
          refine one_ (i := 10) (N := some 51) #[true, true, true, true, true, true, true, true, true, true, true, false] rfl rfl (one_of HT_.out (by kernel_rfl)) (by decide) (fun K hK => ?_)
          refine goes_ Try.func21 (by kernel_rfl) rfl #[.agg #[.int .i64 ((rd_T28 l0_3 x5_2).f0), .int .i64 ((rd_T28 l0_3 x5_2).f1), .int .i64 ((rd_T28 l0_3 x5_2).f2), .slice A868_3 ((rd_T28 l0_3 x5_2).f3).length c868_3], .agg #[.int .i64 ((rd_T28 l1_3 x5_2).f0), .int .i64 ((rd_T28 l1_3 x5_2).f1), .int .i64 ((rd_T28 l1_3 x5_2).f2), .slice A869_3 ((rd_T28 l1_3 x5_2).f3).length c869_3]] (by rfl) rfl rfl (by (simp only [List.map_toArray, List.map_cons, List.map_nil]); rfl) ?_
          with_reducible refine (ih k2 (by have := HJ2.out; have := HK2.out; omega) ((rd_T28 l0_3 x5_2).f0) ((rd_T28 l0_3 x5_2).f1) ((rd_T28 l0_3 x5_2).f2) _ _ ((rd_T28 l0_3 x5_2).f3) ((rd_T28 l1_3 x5_2).f0) ((rd_T28 l1_3 x5_2).f1) ((rd_T28 l1_3 x5_2).f2) _ _ ((rd_T28 l1_3 x5_2).f3) true _ ?side1 ?side2 ?side3 ?side4 A25.out).mono ?_
          (case side1 => repeat (exact (Kd.C_below HR868_3.out HB.out)))
          (case side2 => exact HC868_3.out)
          (case side3 => repeat (exact (Kd.C_below HR869_3.out HB.out)))
          (case side4 => exact HC869_3.out)
          rintro e w30 ⟨rfl, hb⟩
          refine ⟨_, rfl, ?_⟩
          have n0_ := M0 (blk_below BK866.out hb)
          have n1_ := M0 (blk_below BK867.out hb)
          have n2_ := M0 (below_step HB.out hb)
          clear BK866 BK867 HB
          have BK866 := n0_
          have BK867 := n1_
          have HB := n2_
          clear n0_ n1_ n2_
          (clear hb)
          (skip)
          (skip)
          (skip)
          refine hK.out _ _ ⟨(blk_cell BK866.out 0).trans rfl, (blk_cell BK866.out 1).trans rfl, (blk_cell BK866.out 2).trans rfl, (blk_cell BK866.out 3).trans rfl, (blk_cell BK867.out 0).trans rfl, (blk_cell BK867.out 1).trans rfl, (blk_cell BK867.out 2).trans rfl, (blk_cell BK867.out 3).trans rfl, ((HB.out.cell (World.block_lt_of_cell? w _ hw868_0)).trans hw868_0), ((HB.out.cell (World.block_lt_of_cell? w _ hw868_1)).trans hw868_1), ((HB.out.cell (World.block_lt_of_cell? w _ hw868_2)).trans hw868_2), ((HB.out.cell (World.block_lt_of_cell? w _ hw868_3)).trans hw868_3), ((HB.out.cell (World.block_lt_of_cell? w _ hw869_0)).trans hw869_0), ((HB.out.cell (World.block_lt_of_cell? w _ hw869_1)).trans hw869_1), ((HB.out.cell (World.block_lt_of_cell? w _ hw869_2)).trans hw869_2), ((HB.out.cell (World.block_lt_of_cell? w _ hw869_3)).trans hw869_3)⟩ (fun hHeld => ?_)
          clear hK K
          refine norm_ (a' := ?_) ?_ ?_
          rotate_left
          ·show Act.put _ (some 51) _ = _
           simp only [Act.put, List.setIfInBounds_toArray, List.set_cons_zero, List.set_cons_succ, i64_w, i32_w]
           rfl
          refine pure_ (i := 11) (N := some 52) (v := ?_) (a' := ?_) #[true, true, true, true, true, true, true, true, true, true, true, true] rfl rfl (any_of HT_.out (by kernel_rfl)) (fun _ _ _ h => h) (Or.inl ⟨by rfl, ?_⟩) ?_ ?_
          rotate_left
          ·intro w'
           go_simp
           with_reducible rfl
          rotate_left
          ·simp only [Act.put, List.setIfInBounds_toArray, List.set_cons_zero, List.set_cons_succ, i64_w, i32_w]
           rfl
          refine done_ (done_of HT_.out (by kernel_rfl)) ?_
          go_wp2
          go_roundg k2
          case measure => have := HJ2.out; have := HK2.out; omega
          case rel => exact ⟨(wrap64 (x5_2 + 1)), (by rfl), H', ⟨by have := HJ2.out; have := HK2.out; omega⟩, ⟨by exact BK866.out⟩, ⟨by exact BK867.out⟩, ⟨by with_reducible exact HB.out⟩⟩
         ·replace c26 := Bool.eq_false_iff.mpr c26
          subst c26
          rw [if_neg (show ¬ (false = true) by decide)] at H
          obtain rfl := Option.some.inj H
          obtain ⟨_, _, _, _, _, _, _, _⟩ := cells4 BK866.out
          go_wp2
          have n0_ := M0 (blk_drew BK866.out)
          have n1_ := M0 (blk_drew BK867.out)
          have n2_ := M0 (below_drew1 HB.out)
          clear BK866 BK867 HB
          have BK866 := n0_
          have BK867 := n1_
          have HB := n2_
          clear n0_ n1_ n2_
          have p868 : 0 ≤ (x5_2 : Int) := of_decide_eq_true (by (with_reducible assumption))
          have q868 : x5_2 < (l0_3.length : Int) := of_decide_eq_true (by (with_reducible assumption))
          obtain ⟨ad868, A868_3, c868_3, e868, hx868_0, hx868_1, hx868_2, hx868_3, hl868_3, hi868_3⟩ := at_T28 HR0_3.out x5_2 p868 q868
          have hw868_3 := hx868_3
          have hw868_2 := hx868_2
          have hw868_1 := hx868_1
          have hw868_0 := hx868_0
          cases e868
          replace hx868_0 := (HB.out.cell (World.block_lt_of_cell? w _ hx868_0)).trans hx868_0
          replace hx868_1 := (HB.out.cell (World.block_lt_of_cell? w _ hx868_1)).trans hx868_1
          replace hx868_2 := (HB.out.cell (World.block_lt_of_cell? w _ hx868_2)).trans hx868_2
          replace hx868_3 := (HB.out.cell (World.block_lt_of_cell? w _ hx868_3)).trans hx868_3
          have HR868_3 := M0 hi868_3
          have HC868_3 := M0 hl868_3
          clear hi868_3 hl868_3
          replace p868 := eq_true p868
          replace q868 := eq_true q868
          have p869 : 0 ≤ (x5_2 : Int) := of_decide_eq_true (by (with_reducible assumption))
          have q869 : x5_2 < (l1_3.length : Int) := of_decide_eq_true (by (with_reducible assumption))
          obtain ⟨ad869, A869_3, c869_3, e869, hx869_0, hx869_1, hx869_2, hx869_3, hl869_3, hi869_3⟩ := at_T28 HR1_3.out x5_2 p869 q869
          have hw869_3 := hx869_3
          have hw869_2 := hx869_2
          have hw869_1 := hx869_1
          have hw869_0 := hx869_0
          cases e869
          replace hx869_0 := (HB.out.cell (World.block_lt_of_cell? w _ hx869_0)).trans hx869_0
          replace hx869_1 := (HB.out.cell (World.block_lt_of_cell? w _ hx869_1)).trans hx869_1
          replace hx869_2 := (HB.out.cell (World.block_lt_of_cell? w _ hx869_2)).trans hx869_2
          replace hx869_3 := (HB.out.cell (World.block_lt_of_cell? w _ hx869_3)).trans hx869_3
          have HR869_3 := M0 hi869_3
          have HC869_3 := M0 hl869_3
          clear hi869_3 hl869_3
          clear p869
          replace q869 := eq_true q869
          refine start_ (n := 12) (S := fun w' => w'.cell? ⟨gb866, 0, none⟩ = some (.int .i64 a0_0) ∧ w'.cell? ⟨gb866, 1, none⟩ = some (.int .i64 a0_1) ∧ w'.cell? ⟨gb866, 2, none⟩ = some (.int .i64 a0_2) ∧ w'.cell? ⟨gb866, 3, none⟩ = some (.slice (some ad868) l0_3.length c0_3) ∧ w'.cell? ⟨gb867, 0, none⟩ = some (.int .i64 a1_0) ∧ w'.cell? ⟨gb867, 1, none⟩ = some (.int .i64 a1_1) ∧ w'.cell? ⟨gb867, 2, none⟩ = some (.int .i64 a1_2) ∧ w'.cell? ⟨gb867, 3, none⟩ = some (.slice (some ad869) l1_3.length c1_3) ∧ w'.cell? (ad868.add ((x5_2).toNat * 4)) = some (.int .i64 ((rd_T28 l0_3 x5_2).f0)) ∧ w'.cell? ⟨(ad868.add ((x5_2).toNat * 4)).block, (ad868.add ((x5_2).toNat * 4)).off + 1, none⟩ = some (.int .i64 ((rd_T28 l0_3 x5_2).f1)) ∧ w'.cell? ⟨(ad868.add ((x5_2).toNat * 4)).block, (ad868.add ((x5_2).toNat * 4)).off + 2, none⟩ = some (.int .i64 ((rd_T28 l0_3 x5_2).f2)) ∧ w'.cell? ⟨(ad868.add ((x5_2).toNat * 4)).block, (ad868.add ((x5_2).toNat * 4)).off + 3, none⟩ = some (.slice A868_3 ((rd_T28 l0_3 x5_2).f3).length c868_3) ∧ w'.cell? (ad869.add ((x5_2).toNat * 4)) = some (.int .i64 ((rd_T28 l1_3 x5_2).f0)) ∧ w'.cell? ⟨(ad869.add ((x5_2).toNat * 4)).block, (ad869.add ((x5_2).toNat * 4)).off + 1, none⟩ = some (.int .i64 ((rd_T28 l1_3 x5_2).f1)) ∧ w'.cell? ⟨(ad869.add ((x5_2).toNat * 4)).block, (ad869.add ((x5_2).toNat * 4)).off + 2, none⟩ = some (.int .i64 ((rd_T28 l1_3 x5_2).f2)) ∧ w'.cell? ⟨(ad869.add ((x5_2).toNat * 4)).block, (ad869.add ((x5_2).toNat * 4)).off + 3, none⟩ = some (.slice A869_3 ((rd_T28 l1_3 x5_2).f3).length c869_3)) (ds := []) #[false, false, false, false, false, false, false, false, false, false, false, false] (by kernel_rfl) rfl rfl ⟨(blk_cell BK866.out 0).trans rfl, (blk_cell BK866.out 1).trans rfl, (blk_cell BK866.out 2).trans rfl, (blk_cell BK866.out 3).trans rfl, (blk_cell BK867.out 0).trans rfl, (blk_cell BK867.out 1).trans rfl, (blk_cell BK867.out 2).trans rfl, (blk_cell BK867.out 3).trans rfl, ((HB.out.cell (World.block_lt_of_cell? w _ hw868_0)).trans hw868_0), ((HB.out.cell (World.block_lt_of_cell? w _ hw868_1)).trans hw868_1), ((HB.out.cell (World.block_lt_of_cell? w _ hw868_2)).trans hw868_2), ((HB.out.cell (World.block_lt_of_cell? w _ hw868_3)).trans hw868_3), ((HB.out.cell (World.block_lt_of_cell? w _ hw869_0)).trans hw869_0), ((HB.out.cell (World.block_lt_of_cell? w _ hw869_1)).trans hw869_1), ((HB.out.cell (World.block_lt_of_cell? w _ hw869_2)).trans hw869_2), ((HB.out.cell (World.block_lt_of_cell? w _ hw869_3)).trans hw869_3)⟩ (fun hHeld => ?_); refine with_tabW canopyref5_Same.tab6 canopyref5_Same.bits6 (fun HT_ HW_ => ?_)
          generalize wr.drew = w33 at BK866 BK867 HB HR868_3 HR869_3 hx868_0 hx868_1 hx868_2 hx868_3 hx869_0 hx869_1 hx869_2 hx869_3 hHeld ⊢
          refine pure_ (i := 0) (N := some 41) (v := ?_) (a' := ?_) #[true, false, false, false, false, false, false, false, false, false, false, false] rfl rfl (any_of HT_.out (by kernel_rfl)) (fun _ _ _ h => h) (Or.inl ⟨by rfl, ?_⟩) ?_ ?_
          rotate_left
          ·intro w'
           go_simp
           with_reducible rfl
          rotate_left
          ·simp only [Act.put, List.setIfInBounds_toArray, List.set_cons_zero, List.set_cons_succ, i64_w, i32_w]
           rfl
          refine pure_ (i := 2) (N := some 43) (v := ?_) (a' := ?_) #[true, false, true, false, false, false, false, false, false, false, false, false] rfl rfl (any_of HT_.out (by kernel_rfl)) (fun _ _ _ h => h) (Or.inl ⟨by rfl, ?_⟩) ?_ ?_
          rotate_left
          ·intro w'
           go_simp
           with_reducible rfl
          rotate_left
          ·simp only [Act.put, List.setIfInBounds_toArray, List.set_cons_zero, List.set_cons_succ, i64_w, i32_w]
           rfl
          refine pure_ (i := 5) (N := some 46) (v := ?_) (a' := ?_) #[true, false, true, false, false, true, false, false, false, false, false, false] rfl rfl (any_of HT_.out (by kernel_rfl)) (fun _ _ _ h => h) (Or.inl ⟨by rfl, ?_⟩) ?_ ?_
          rotate_left
          ·intro w'
           go_simp
           with_reducible rfl
          rotate_left
          ·simp only [Act.put, List.setIfInBounds_toArray, List.set_cons_zero, List.set_cons_succ, i64_w, i32_w]
           rfl
          refine pure_ (i := 7) (N := some 48) (v := ?_) (a' := ?_) #[true, false, true, false, false, true, false, true, false, false, false, false] rfl rfl (any_of HT_.out (by kernel_rfl)) (fun _ _ _ h => h) (Or.inl ⟨by rfl, ?_⟩) ?_ ?_
          rotate_left
          ·intro w'
           go_simp
           with_reducible rfl
          rotate_left
          ·simp only [Act.put, List.setIfInBounds_toArray, List.set_cons_zero, List.set_cons_succ, i64_w, i32_w]
           rfl
          refine take_ (i := 1) (N := some 42) (v := ?_) (a' := ?_) #[true, true, true, false, false, true, false, true, false, false, false, false] rfl rfl (take_ofW HT_.out HW_.out (by kernel_rfl)) (fun _ _ _ h => h) (Or.inl ⟨by rfl, ?_⟩) hHeld ?_ ?_
          rotate_left
          ·rintro w' ⟨s0, s1, s2, s3, s4, s5, s6, s7, s8, s9, s10, s11, s12, s13, s14, s15⟩
           go_simp
           with_reducible rfl
          rotate_left
          ·simp only [Act.put, List.setIfInBounds_toArray, List.set_cons_zero, List.set_cons_succ, i64_w, i32_w]
           rfl
          refine pure_ (i := 3) (N := some 44) (v := ?_) (a' := ?_) #[true, true, true, true, false, true, false, true, false, false, false, false] rfl rfl (any_of HT_.out (by kernel_rfl)) (fun _ _ _ h => h) (Or.inl ⟨by rfl, ?_⟩) ?_ ?_
          rotate_left
          ·intro w'
           go_simp
           with_reducible rfl
          rotate_left
          ·simp only [Act.put, List.setIfInBounds_toArray, List.set_cons_zero, List.set_cons_succ, i64_w, i32_w]
           rfl
          refine take_ (i := 4) (N := some 45) (v := ?_) (a' := ?_) #[true, true, true, true, true, true, false, true, false, false, false, false] rfl rfl (take_ofW HT_.out HW_.out (by kernel_rfl)) (fun _ _ _ h => h) (Or.inl ⟨by rfl, ?_⟩) hHeld ?_ ?_
          rotate_left
          ·rintro w' ⟨s0, s1, s2, s3, s4, s5, s6, s7, s8, s9, s10, s11, s12, s13, s14, s15⟩
           go_simp
           with_reducible rfl
          rotate_left
          ·simp only [Act.put, List.setIfInBounds_toArray, List.set_cons_zero, List.set_cons_succ, i64_w, i32_w]
           rfl
          refine take_ (i := 6) (N := some 47) (v := ?_) (a' := ?_) #[true, true, true, true, true, true, true, true, false, false, false, false] rfl rfl (take_ofW HT_.out HW_.out (by kernel_rfl)) (fun _ _ _ h => h) (Or.inl ⟨by rfl, ?_⟩) hHeld ?_ ?_
          rotate_left
          ·rintro w' ⟨s0, s1, s2, s3, s4, s5, s6, s7, s8, s9, s10, s11, s12, s13, s14, s15⟩
           go_simp
           with_reducible rfl
          rotate_left
          ·simp only [Act.put, List.setIfInBounds_toArray, List.set_cons_zero, List.set_cons_succ, i64_w, i32_w]
           rfl
          refine pure_ (i := 8) (N := some 49) (v := ?_) (a' := ?_) #[true, true, true, true, true, true, true, true, true, false, false, false] rfl rfl (any_of HT_.out (by kernel_rfl)) (fun _ _ _ h => h) (Or.inl ⟨by rfl, ?_⟩) ?_ ?_
          rotate_left
          ·intro w'
           go_simp
           with_reducible rfl
          rotate_left
          ·simp only [Act.put, List.setIfInBounds_toArray, List.set_cons_zero, List.set_cons_succ, i64_w, i32_w]
           rfl
          refine take_ (i := 9) (N := some 50) (v := ?_) (a' := ?_) #[true, true, true, true, true, true, true, true, true, true, false, false] rfl rfl (take_ofW HT_.out HW_.out (by kernel_rfl)) (fun _ _ _ h => h) (Or.inl ⟨by rfl, ?_⟩) hHeld ?_ ?_
          rotate_left
          ·rintro w' ⟨s0, s1, s2, s3, s4, s5, s6, s7, s8, s9, s10, s11, s12, s13, s14, s15⟩
           go_simp
           with_reducible rfl
          rotate_left
          ·simp only [Act.put, List.setIfInBounds_toArray, List.set_cons_zero, List.set_cons_succ, i64_w, i32_w]
           rfl
          refine one_ (i := 10) (N := some 51) #[true, true, true, true, true, true, true, true, true, true, true, false] rfl rfl (one_of HT_.out (by kernel_rfl)) (by decide) (fun K hK => ?_)
          refine goes_ Try.func21 (by kernel_rfl) rfl #[.agg #[.int .i64 ((rd_T28 l0_3 x5_2).f0), .int .i64 ((rd_T28 l0_3 x5_2).f1), .int .i64 ((rd_T28 l0_3 x5_2).f2), .slice A868_3 ((rd_T28 l0_3 x5_2).f3).length c868_3], .agg #[.int .i64 ((rd_T28 l1_3 x5_2).f0), .int .i64 ((rd_T28 l1_3 x5_2).f1), .int .i64 ((rd_T28 l1_3 x5_2).f2), .slice A869_3 ((rd_T28 l1_3 x5_2).f3).length c869_3]] (by rfl) rfl rfl (by (simp only [List.map_toArray, List.map_cons, List.map_nil]); rfl) ?_
          with_reducible refine (ih k2 (by have := HJ2.out; have := HK2.out; omega) ((rd_T28 l0_3 x5_2).f0) ((rd_T28 l0_3 x5_2).f1) ((rd_T28 l0_3 x5_2).f2) _ _ ((rd_T28 l0_3 x5_2).f3) ((rd_T28 l1_3 x5_2).f0) ((rd_T28 l1_3 x5_2).f1) ((rd_T28 l1_3 x5_2).f2) _ _ ((rd_T28 l1_3 x5_2).f3) false _ ?side1 ?side2 ?side3 ?side4 A25.out).mono ?_
          (case side1 => repeat (exact (Kd.C_below HR868_3.out HB.out)))
          (case side2 => exact HC868_3.out)
          (case side3 => repeat (exact (Kd.C_below HR869_3.out HB.out)))
          (case side4 => exact HC869_3.out)
          rintro e w34 ⟨rfl, hb⟩
          refine ⟨_, rfl, ?_⟩
          have n0_ := M0 (blk_below BK866.out hb)
          have n1_ := M0 (blk_below BK867.out hb)
          have n2_ := M0 (below_step HB.out hb)
          clear BK866 BK867 HB
          have BK866 := n0_
          have BK867 := n1_
          have HB := n2_
          clear n0_ n1_ n2_
          (clear hb)
          (skip)
          (skip)
          (skip)
          refine hK.out _ _ ⟨(blk_cell BK866.out 0).trans rfl, (blk_cell BK866.out 1).trans rfl, (blk_cell BK866.out 2).trans rfl, (blk_cell BK866.out 3).trans rfl, (blk_cell BK867.out 0).trans rfl, (blk_cell BK867.out 1).trans rfl, (blk_cell BK867.out 2).trans rfl, (blk_cell BK867.out 3).trans rfl, ((HB.out.cell (World.block_lt_of_cell? w _ hw868_0)).trans hw868_0), ((HB.out.cell (World.block_lt_of_cell? w _ hw868_1)).trans hw868_1), ((HB.out.cell (World.block_lt_of_cell? w _ hw868_2)).trans hw868_2), ((HB.out.cell (World.block_lt_of_cell? w _ hw868_3)).trans hw868_3), ((HB.out.cell (World.block_lt_of_cell? w _ hw869_0)).trans hw869_0), ((HB.out.cell (World.block_lt_of_cell? w _ hw869_1)).trans hw869_1), ((HB.out.cell (World.block_lt_of_cell? w _ hw869_2)).trans hw869_2), ((HB.out.cell (World.block_lt_of_cell? w _ hw869_3)).trans hw869_3)⟩ (fun hHeld => ?_)
          clear hK K
          refine norm_ (a' := ?_) ?_ ?_
          rotate_left
          ·show Act.put _ (some 51) _ = _
           simp only [Act.put, List.setIfInBounds_toArray, List.set_cons_zero, List.set_cons_succ, i64_w, i32_w]
           rfl
          refine pure_ (i := 11) (N := some 52) (v := ?_) (a' := ?_) #[true, true, true, true, true, true, true, true, true, true, true, true] rfl rfl (any_of HT_.out (by kernel_rfl)) (fun _ _ _ h => h) (Or.inl ⟨by rfl, ?_⟩) ?_ ?_
          rotate_left
          ·intro w'
           go_simp
           with_reducible rfl
          rotate_left
          ·simp only [Act.put, List.setIfInBounds_toArray, List.set_cons_zero, List.set_cons_succ, i64_w, i32_w]
           rfl
          refine done_ (done_of HT_.out (by kernel_rfl)) ?_
          go_wp2
          go_ret
          exact ⟨by rfl, by with_reducible exact HB.out⟩
        ·rw [if_neg c24] at H
         exact absurd H (by simp)
       ·rw [if_neg c23] at H
        exact absurd H (by simp)
      ·rw [if_neg c22] at H
       have c22b0 := decide_eq_false c22
       clear c22
       obtain rfl := Option.some.inj H
       obtain ⟨_, _, _, _, _, _, _, _⟩ := cells4 BK866.out
       go_wp2
       go_ret
       exact ⟨by rfl, by with_reducible exact HB.out⟩

end Go.Proofs.Ytodbnnfiadcbaaa.P
namespace Go.Proofs.YtodbnnfiadcbaaaL
open Go.RowKit Go.Proofs.Ytodbnnfiadcbaaa.P Go.Proofs.YtodbnnfiadcbaaaW.PrintWords Go.Proofs.YtodbnnfiadcbaaaW.PrintLast Go.Proofs.YtodbnnfiadcbaaaW.PrintMore
set_option linter.unusedSimpArgs false
set_option linter.unusedVariables false
theorem same_ev : ∀ (n : Nat) (e : S28), tsize e ≤ n → n ≤ 1000000000 → Ev (fun k => canopyref5_Same.f k e.f0 e.f1 e.f2 e.f3 e.f0 e.f1 e.f2 e.f3) true
 | 0, e, h, _ => by rw [tsize_eq] at h; omega
 | n + 1, e, h, hn => by
  have hs := tsize_eq e
  have hl := len_tsizeL e.f3
  have loop : ∀ (d i : Nat), i + d = e.f3.length → Ev (fun k => canopyref5_Same.l0 k (i : Int) e.f0 e.f1 e.f2 e.f3 e.f0 e.f1 e.f2 e.f3) true := by
   intro d
   induction d with
   | zero =>
    intro i hi
    refine Ev.step (fun k => rfl) ?_
    exact Ev.congr (f := fun _ => some true) (fun k => by rw [canopyref5_Same.l0, if_neg (by omega)]) (Ev.now _)
   | succ d ih =>
    intro i hi
    have hlt : i < e.f3.length := by omega
    have hx := tsize_mem (rd_in e.f3 i hlt)
    refine Ev.step (fun k => rfl) ?_
    refine Ev.congr (f := fun k => (canopyref5_Same.f k (rd_T28 e.f3 (i : Int)).f0 (rd_T28 e.f3 (i : Int)).f1 (rd_T28 e.f3 (i : Int)).f2 (rd_T28 e.f3 (i : Int)).f3 (rd_T28 e.f3 (i : Int)).f0 (rd_T28 e.f3 (i : Int)).f1 (rd_T28 e.f3 (i : Int)).f2 (rd_T28 e.f3 (i : Int)).f3).bind fun t => if t = true then canopyref5_Same.l0 k (wrap64 ((i : Int) + 1)) e.f0 e.f1 e.f2 e.f3 e.f0 e.f1 e.f2 e.f3 else some false) (fun k => by rw [canopyref5_Same.l0, if_pos (by omega), if_pos (by omega), if_pos (by omega)]) ?_
    refine Ev.bind (same_ev n _ (by omega) (by omega)) ?_
    refine Ev.congr (fun k => by rw [if_pos rfl]) ?_
    rw [wrap_suc i e.f3.length hlt (by omega)]
    exact ih (i + 1) (by omega)
  have := loop e.f3.length 0 (by omega)
  refine Ev.step (fun k => rfl) ?_
  refine Ev.congr (f := fun k => canopyref5_Same.j0 k false e.f0 e.f1 e.f2 e.f3 e.f0 e.f1 e.f2 e.f3) (fun k => by rw [canopyref5_Same.f, if_pos rfl, if_pos rfl, if_pos rfl, bne_self_eq_false]) ?_
  refine Ev.step (fun k => rfl) ?_
  exact Ev.congr (fun k => by rw [canopyref5_Same.j0, if_neg (by decide)]; rfl) this
def nameT (l : List S56) (i : Int) : List UInt8 := (rd_T56 l i).f0.data.toList
def symT (l : List S56) (i : Int) : List UInt8 :=
 if (rd_T56 l i).f1 = 1 then [60] ++ nameT l i ++ [62] else if (rd_T56 l i).f1 = 2 then [60, 47] ++ nameT l i ++ [62] else nameT l i
def held (cat : Bool) (k : Int) (s : List UInt8) : List UInt8 := if k = 6 ∨ cat = true ∧ k = 5 then [40, 32] ++ s ++ [32, 41] else s
mutual
def textT (l : List S56) : S28 → List UInt8
 | ⟨k, a, b, xs⟩ => if k = 2 then [49] else if k = 3 then symT l a
  else if k = 4 then [60] ++ nameT l a ++ [91, 32] ++ (textsT l xs).flatten ++ [32, 93] ++ nameT l b ++ [62]
  else if k = 5 then Lib.join (heldsT l true xs) [32] else if k = 6 then Lib.join (heldsT l false xs) [32, 124, 32]
  else if k = 7 then (heldsT l true xs).flatten ++ [42] else [48]
def textsT (l : List S56) : List S28 → List (List UInt8)
 | [] => []
 | x :: xs => textT l x :: textsT l xs
def heldsT (l : List S56) (cat : Bool) : List S28 → List (List UInt8)
 | [] => []
 | x :: xs => held cat x.f0 (textT l x) :: heldsT l cat xs
end
def sumL : List (List UInt8) → Nat
 | [] => 0
 | x :: xs => x.length + 7 + sumL xs
theorem tail_sum (sep : List UInt8) (h : sep.length ≤ 3) : ∀ r : List (List UInt8), (Lib.joinTail sep r).length ≤ sumL r
 | [] => by simp [Lib.joinTail, sumL]
 | x :: r => by
  have := tail_sum sep h r
  have e : Lib.joinTail sep (x :: r) = sep ++ x ++ Lib.joinTail sep r := by simp [Lib.joinTail]
  rw [e, List.length_append, List.length_append, sumL]
  omega
theorem join_sum (sep : List UInt8) (h : sep.length ≤ 3) (r : List (List UInt8)) : (Lib.join r sep).length ≤ sumL r := by
 cases r with
 | nil => simp [Lib.join_nil, sumL]
 | cons x r =>
  have := tail_sum sep h r
  rw [Lib.join_cons, List.length_append, sumL]
  omega
theorem flat_sum : ∀ r : List (List UInt8), r.flatten.length ≤ sumL r
 | [] => by simp [sumL]
 | x :: r => by
  have := flat_sum r
  rw [List.flatten_cons, List.length_append, sumL]
  omega
theorem held_len (cat : Bool) (k : Int) (s : List UInt8) : (held cat k s).length ≤ s.length + 4 := by
 unfold held
 split
 ·simp
 ·omega
theorem nameT_len {l : List S56} (hl : ∀ x ∈ l, x.f0.size ≤ 8) (i : Int) : (nameT l i).length ≤ 8 := by
 unfold nameT rd_T56
 rw [List.getD_eq_getElem?_getD]
 cases h : l[i.toNat]? with
 | none => simp [z56]
 | some x =>
  have := hl x (List.mem_of_getElem? h)
  simpa using this
theorem symT_len {l : List S56} (hl : ∀ x ∈ l, x.f0.size ≤ 8) (i : Int) : (symT l i).length ≤ 11 := by
 have := nameT_len hl i
 unfold symT
 split
 ·simp; omega
 ·split
  ·simp; omega
  ·omega
mutual
theorem textT_len {l : List S56} (hl : ∀ x ∈ l, x.f0.size ≤ 8) : ∀ e : S28, (textT l e).length + 11 ≤ 40 * tsize e
 | ⟨k, a, b, xs⟩ => by
  have h1 := textsT_len hl xs
  have h2 := heldsT_len hl true xs
  have h3 := heldsT_len hl false xs
  have n1 := nameT_len hl a
  have n2 := nameT_len hl b
  have n3 := symT_len hl a
  have f1 := flat_sum (textsT l xs)
  have f2 := flat_sum (heldsT l true xs)
  have j1 := join_sum [32] (by decide) (heldsT l true xs)
  have j2 := join_sum [32, 124, 32] (by decide) (heldsT l false xs)
  rw [textT, tsize]
  split
  ·simp; omega
  split
  ·omega
  split
  ·simp only [List.length_append, List.length_cons, List.length_nil]; omega
  split
  ·omega
  split
  ·omega
  split
  ·simp only [List.length_append, List.length_cons, List.length_nil]; omega
  ·simp; omega
theorem textsT_len {l : List S56} (hl : ∀ x ∈ l, x.f0.size ≤ 8) : ∀ xs : List S28, sumL (textsT l xs) ≤ 40 * tsizeL xs
 | [] => by simp [textsT, sumL]
 | x :: xs => by
  have h1 := textT_len hl x
  have h2 := textsT_len hl xs
  rw [textsT, sumL, tsizeL]
  omega
theorem heldsT_len {l : List S56} (hl : ∀ x ∈ l, x.f0.size ≤ 8) (cat : Bool) : ∀ xs : List S28, sumL (heldsT l cat xs) ≤ 40 * tsizeL xs
 | [] => by simp [heldsT, sumL]
 | x :: xs => by
  have h1 := textT_len hl x
  have h2 := heldsT_len hl cat xs
  have h3 := held_len cat x.f0 (textT l x)
  rw [heldsT, sumL, tsizeL]
  omega
end
def blk : List UInt8 → Nat
 | [] => 0
 | c :: r => if c = 32 then blk r + 1 else 0
def lets : List UInt8 → Nat
 | [] => 0
 | c :: r => if 97 ≤ c.toNat ∧ c.toNat ≤ 122 then lets r + 1 else 0
inductive Tk where
 | eof | bad
 | one (c : UInt8)
 | sym (nm : List UInt8) (k : Int)
 | nest (nm : List UInt8)
 | over (nm : List UInt8)
def okN (t : List UInt8) : Bool := decide (1 ≤ lets t) && decide (lets t ≤ 8)
def endsBy (t : List UInt8) (c : UInt8) : Bool := okN t && decide (t[lets t]? = some c)
def isSign (c : UInt8) : Bool := c == 48 || c == 49 || c == 40 || c == 41 || c == 124 || c == 42
def tokLt (t : List UInt8) : Tk × Nat :=
 if t.head? = some 47 then (if endsBy t.tail 62 then (.sym (t.tail.take (lets t.tail)) 2, lets t.tail + 3) else (.bad, 0))
 else if endsBy t 62 then (.sym (t.take (lets t)) 1, lets t + 2)
 else if endsBy t 91 then (.nest (t.take (lets t)), lets t + 2) else (.bad, 0)
def tokAt : List UInt8 → Tk × Nat
 | [] => (.eof, 0)
 | c :: t =>
  if isSign c then (.one c, 1)
  else if c = 60 then tokLt t
  else if c = 93 then (if endsBy t 62 then (.over (t.take (lets t)), lets t + 2) else (.bad, 0))
  else if okN (c :: t) then (.sym ((c :: t).take (lets (c :: t))) 3, lets (c :: t)) else (.bad, 0)
def Tk.isOne (t : Tk) (c : UInt8) : Bool := match t with
 | .one b => b == c
 | _ => false
def Tk.begins (t : Tk) : Bool := match t with
 | .one b => b == 48 || b == 49 || b == 40
 | .sym _ _ => true
 | .nest _ => true
 | _ => false
def Tk.isEof (t : Tk) : Bool := match t with
 | .eof => true
 | _ => false
/-- Behind the blanks. -/
def nx (s : List UInt8) (q : Nat) : Nat := q + blk (s.drop q)
/-- The first symbol of this name and kind; -1: there is none. -/
def findT : List S56 → List UInt8 → Int → Nat → Option Int
 | [], _, _, _ => none
 | x :: xs, nm, k, i => if x.f0.data.toList = nm ∧ x.f1 = k then some (i : Int) else findT xs nm k (i + 1)
inductive Rs where
 | ok (v : S28) (f : Nat)
 | err (e : Int) (p : Nat)
def Rs.and (r : Option Rs) (g : S28 → Nat → Option Rs) : Option Rs := r.bind fun r => match r with
 | .ok v f => g v f
 | .err e p => some (.err e p)
def severalT (k : Int) (xs : List S28) : S28 := match xs with
 | [x] => x
 | _ => ⟨k, 0, 0, xs⟩
section
variable (l : List S56) (s : List UInt8)
mutual
def aAtom : Nat → Nat → Nat → Option Rs
 | 0, _, _ => none
 | n + 1, d, f => match tokAt (s.drop f) with
  | (.one c, _) =>
   if c = 48 then some (.ok ⟨1, 0, 0, []⟩ (nx s (f + 1)))
   else if c = 49 then some (.ok ⟨2, 0, 0, []⟩ (nx s (f + 1)))
   else if c = 40 then (if 40 < d then some (.err 3 f) else Rs.and (aOr n (d + 1) (nx s (f + 1))) fun x g => if (tokAt (s.drop g)).1.isOne 41 then some (.ok x (nx s (g + 1))) else some (.err 1 g))
   else some (.err 1 f)
  | (.sym nm k, m) => match findT l nm k 0 with
   | some i => some (.ok ⟨3, i, 0, []⟩ (nx s (f + m)))
   | none => some (.err 6 f)
  | (.nest nm, m) => match findT l nm 1 0 with
   | none => some (.err 6 f)
   | some a => if 40 < d then some (.err 3 f) else Rs.and (aOr n (d + 1) (nx s (f + m))) fun x g => match tokAt (s.drop g) with
    | (.over nm2, m2) => (match findT l nm2 2 0 with
     | some b => some (.ok ⟨4, a, b, [x]⟩ (nx s (g + m2)))
     | none => some (.err 6 g))
    | _ => some (.err 1 g)
  | _ => some (.err 1 f)
def aStars : Nat → S28 → Nat → Option Rs
 | 0, _, _ => none
 | n + 1, x, f => if (tokAt (s.drop f)).1.isOne 42 then aStars n ⟨7, 0, 0, [x]⟩ (nx s (f + 1)) else some (.ok x f)
def aRep : Nat → Nat → Nat → Option Rs
 | 0, _, _ => none
 | n + 1, d, f => Rs.and (aAtom n d f) fun x g => aStars n x g
def aCats : Nat → Nat → List S28 → Nat → Option Rs
 | 0, _, _, _ => none
 | n + 1, d, acc, f => if (tokAt (s.drop f)).1.begins then Rs.and (aRep n d f) fun x g => aCats n d (acc ++ [x]) g else some (.ok (severalT 5 acc) f)
def aCat : Nat → Nat → Nat → Option Rs
 | 0, _, _ => none
 | n + 1, d, f => Rs.and (aRep n d f) fun x g => aCats n d [x] g
def aOrs : Nat → Nat → List S28 → Nat → Option Rs
 | 0, _, _, _ => none
 | n + 1, d, acc, f => if (tokAt (s.drop f)).1.isOne 124 then Rs.and (aCat n d (nx s (f + 1))) fun x g => aOrs n d (acc ++ [x]) g else some (.ok (severalT 6 acc) f)
def aOr : Nat → Nat → Nat → Option Rs
 | 0, _, _ => none
 | n + 1, d, f => Rs.and (aCat n d f) fun x g => aOrs n d [x] g
end
end
/-- A text, read: a tree, or an error at a place. -/
def aParse (l : List S56) (s : List UInt8) (n : Nat) : Option (S28 × Int × Int) :=
 (aOr l s n 0 (nx s 0)).map fun r => match r with
  | .err e p => (⟨0, 0, 0, []⟩, (p : Int), e)
  | .ok x g => if (tokAt (s.drop g)).1.isEof then (if treeErr l x = 0 then (x, 0, 0) else (⟨0, 0, 0, []⟩, 0, treeErr l x)) else (⟨0, 0, 0, []⟩, (g : Int), 1)
def letB (c : UInt8) : Bool := decide (97 ≤ c.toNat) && decide (c.toNat ≤ 122)
theorem lets_app : ∀ (nm r : List UInt8), (∀ c ∈ nm, letB c = true) → (∀ c, r.head? = some c → letB c = false) → lets (nm ++ r) = nm.length
 | [], r, _, hr => by
  cases r with
  | nil => rfl
  | cons c r =>
   have := hr c rfl
   rw [List.nil_append, lets, if_neg]
   ·rfl
   ·intro h
    simp [letB, h] at this
 | c :: nm, r, hn, hr => by
  have h := hn c (by simp)
  simp only [letB, Bool.and_eq_true, decide_eq_true_eq] at h
  rw [List.cons_append, lets, if_pos h, lets_app nm r (fun x hx => hn x (by simp [hx])) hr, List.length_cons]
structure Nm (nm : List UInt8) : Prop where
 letters : ∀ c ∈ nm, letB c = true
 pos : 1 ≤ nm.length
 most : nm.length ≤ 8
theorem okN_app {nm r : List UInt8} (h : Nm nm) (hr : ∀ c, r.head? = some c → letB c = false) : okN (nm ++ r) = true := by
 unfold okN
 rw [lets_app nm r h.letters hr]
 have := h.pos
 have := h.most
 simp; omega
theorem take_app (nm r : List UInt8) : (nm ++ r).take nm.length = nm := by simp
theorem ends_app {nm r : List UInt8} (h : Nm nm) (c d : UInt8) (hc : letB c = false) : endsBy (nm ++ c :: r) d = decide (c = d) := by
 unfold endsBy
 have hr : ∀ x, (c :: r).head? = some x → letB x = false := fun x hx => by simp at hx; rw [← hx]; exact hc
 rw [okN_app h hr, lets_app nm _ h.letters hr, Bool.true_and]
 simp
theorem head_ne {nm : List UInt8} (h : Nm nm) (r : List UInt8) (d : UInt8) (hd : letB d = false) : (nm ++ r).head? ≠ some d := by
 have := h.pos
 cases nm with
 | nil => simp at this
 | cons c nm =>
  intro e
  simp at e
  have := h.letters c (by simp)
  rw [e, hd] at this
  cases this
theorem tok_opens {nm r : List UInt8} (h : Nm nm) : tokAt (60 :: (nm ++ 62 :: r)) = (.sym nm 1, nm.length + 2) := by
 rw [tokAt, if_neg (by decide), if_pos rfl, tokLt, if_neg (head_ne h _ _ (by decide)), ends_app h 62 62 (by decide), if_pos (by decide)]
 rw [lets_app nm _ h.letters (by intro c hc; simp at hc; rw [← hc]; decide), take_app]
theorem tok_nest {nm r : List UInt8} (h : Nm nm) : tokAt (60 :: (nm ++ 91 :: r)) = (.nest nm, nm.length + 2) := by
 rw [tokAt, if_neg (by decide), if_pos rfl, tokLt, if_neg (head_ne h _ _ (by decide)), ends_app h 91 62 (by decide), if_neg (by decide), ends_app h 91 91 (by decide), if_pos (by decide)]
 rw [lets_app nm _ h.letters (by intro c hc; simp at hc; rw [← hc]; decide), take_app]
theorem tok_closes {nm r : List UInt8} (h : Nm nm) : tokAt (60 :: 47 :: (nm ++ 62 :: r)) = (.sym nm 2, nm.length + 3) := by
 rw [tokAt, if_neg (by decide), if_pos rfl, tokLt, if_pos (by rfl), List.tail_cons, ends_app h 62 62 (by decide), if_pos (by decide)]
 rw [lets_app nm _ h.letters (by intro c hc; simp at hc; rw [← hc]; decide), take_app]
theorem tok_over {nm r : List UInt8} (h : Nm nm) : tokAt (93 :: (nm ++ 62 :: r)) = (.over nm, nm.length + 2) := by
 rw [tokAt, if_neg (by decide), if_neg (by decide), if_pos rfl, ends_app h 62 62 (by decide), if_pos (by decide)]
 rw [lets_app nm _ h.letters (by intro c hc; simp at hc; rw [← hc]; decide), take_app]
theorem let_not (c d : UInt8) (hc : letB c = true) (hd : letB d = false) : c ≠ d := fun e => by rw [e, hd] at hc; cases hc
theorem tok_plain {nm r : List UInt8} (h : Nm nm) (hr : ∀ c, r.head? = some c → letB c = false) : tokAt (nm ++ r) = (.sym nm 3, nm.length) := by
 have h1 := okN_app h hr
 have h2 := lets_app nm r h.letters hr
 have h3 := take_app nm r
 have h4 := h.pos
 cases nm with
 | nil => simp at h4
 | cons c nm =>
  have hc := h.letters c (by simp)
  rw [List.cons_append] at h1 h2 h3 ⊢
  rw [tokAt, if_neg, if_neg (let_not c _ hc (by decide)), if_neg (let_not c _ hc (by decide)), if_pos h1, h2, h3]
  simp only [isSign, Bool.or_eq_true, beq_iff_eq, not_or]
  exact ⟨⟨⟨⟨⟨let_not c _ hc (by decide), let_not c _ hc (by decide)⟩, let_not c _ hc (by decide)⟩, let_not c _ hc (by decide)⟩, let_not c _ hc (by decide)⟩, let_not c _ hc (by decide)⟩
/-! places -/
theorem nx_same {s : List UInt8} {q : Nat} (h : (s.drop q).head? ≠ some 32) : nx s q = q := by
 unfold nx
 cases hd : s.drop q with
 | nil => rfl
 | cons c r =>
  rw [hd] at h
  rw [blk, if_neg (by simpa using h)]
  rfl
theorem drop_add {s u r : List UInt8} {q : Nat} (h : s.drop q = u ++ r) (k : Nat) (hk : k = u.length) : s.drop (q + k) = r := by
 rw [← List.drop_drop, h, hk, List.drop_left]
theorem nx_blank {s r : List UInt8} {q : Nat} (h : s.drop q = 32 :: r) (hr : r.head? ≠ some 32) : nx s q = q + 1 := by
 unfold nx
 rw [h, blk, if_pos rfl]
 cases r with
 | nil => rfl
 | cons c r => rw [blk, if_neg (by simpa using hr)]
/-! symbols -/
theorem find_at : ∀ (l : List S56), distinct (l.map key) = true → ∀ (n : Nat) (h : n < l.length) (i : Nat), findT l l[n].f0.data.toList l[n].f1 i = some ((i + n : Nat) : Int)
 | [], _, n, h, i => by simp at h
 | x :: xs, hd, n, h, i => by
  cases n with
  | zero => rw [findT]; exact if_pos ⟨rfl, rfl⟩
  | succ n =>
   have hd2 : distinct (xs.map key) = true := by
    rw [List.map_cons, distinct, Bool.and_eq_true] at hd
    exact hd.2
   have hne : ¬ (x.f0.data.toList = (xs[n]'(by simpa using h)).f0.data.toList ∧ x.f1 = (xs[n]'(by simpa using h)).f1) := fun e => by
    have := distinct_inj _ hd 0 (n + 1) (by simp) (by simpa using h) (by simp [key, e])
    omega
   rw [List.getElem_cons_succ, findT, if_neg hne, find_at xs hd2 n (by simpa using h) (i + 1)]
   congr 2
   omega
theorem rd56_get {l : List S56} {n : Nat} (h : n < l.length) : rd_T56 l (n : Int) = l[n] := by
 unfold rd_T56
 rw [Int.toNat_natCast, List.getD_eq_getElem?_getD, List.getElem?_eq_getElem h]
 rfl
theorem good_distinct {l : List S56} (hg : goodB l = true) : distinct (l.map key) = true := by
 simp only [goodB, Bool.and_eq_true] at hg
 exact hg.2
theorem find_name {l : List S56} (hg : goodB l = true) {i : Int} (h0 : 0 ≤ i) (h1 : i < (l.length : Int)) : findT l (nameT l i) (rd_T56 l i).f1 0 = some i := by
 obtain ⟨n, rfl⟩ := Int.eq_ofNat_of_zero_le h0
 have hn : n < l.length := by omega
 unfold nameT
 rw [rd56_get hn, find_at l (good_distinct hg) n hn 0, Nat.zero_add]
theorem good_nm {l : List S56} (hg : goodB l = true) {i : Int} (h0 : 0 ≤ i) (h1 : i < (l.length : Int)) : Nm (nameT l i) := by
 obtain ⟨n, rfl⟩ := Int.eq_ofNat_of_zero_le h0
 have hn : n < l.length := by omega
 have h := (good_at hg (List.getElem_mem hn)).1
 unfold nameT
 rw [rd56_get hn]
 simp only [nameB, Bool.and_eq_true, decide_eq_true_eq, List.all_eq_true] at h
 refine ⟨fun c hc => ?_, by simpa using h.1.1, by simpa using h.1.2⟩
 have := h.2 c hc
 simpa [letB] using this
def Fit (l : List S56) (x : S28) : Prop := tformed x = true ∧ tbad l x = false
theorem tformedL_mem : ∀ {xs : List S28} {x : S28}, tformedL xs = true → x ∈ xs → tformed x = true
 | y :: ys, x, h, hx => by
  rw [tformedL, Bool.and_eq_true] at h
  rcases List.mem_cons.mp hx with rfl | hx
  ·exact h.1
  ·exact tformedL_mem h.2 hx
theorem of_in {l : List S56} {i k : Int} (h : ofF l i = k) (hk : k ≠ 0) : 0 ≤ i ∧ i < (l.length : Int) ∧ (rd_T56 l i).f1 = k := by
 unfold ofF at h
 by_cases h0 : i < 0
 ·rw [if_pos h0] at h; exact absurd h.symm hk
 ·rw [if_neg h0] at h
  by_cases h1 : i ≥ (l.length : Int)
  ·rw [if_pos h1] at h; exact absurd h.symm hk
  ·rw [if_neg h1] at h
   exact ⟨by omega, by omega, h⟩
inductive View (l : List S56) : S28 → Prop
 | none : View l ⟨1, 0, 0, []⟩
 | void : View l ⟨2, 0, 0, []⟩
 | sym (a : Int) (h0 : 0 ≤ a) (h1 : a < (l.length : Int)) : View l ⟨3, a, 0, []⟩
 | nest (a b : Int) (x : S28) (a0 : 0 ≤ a) (a1 : a < (l.length : Int)) (a2 : (rd_T56 l a).f1 = 1) (b0 : 0 ≤ b) (b1 : b < (l.length : Int)) (b2 : (rd_T56 l b).f1 = 2) (hx : Fit l x) : View l ⟨4, a, b, [x]⟩
 | cat (x y : S28) (xs : List S28) (h : ∀ z ∈ x :: y :: xs, Fit l z) : View l ⟨5, 0, 0, x :: y :: xs⟩
 | or (x y : S28) (xs : List S28) (h : ∀ z ∈ x :: y :: xs, Fit l z) : View l ⟨6, 0, 0, x :: y :: xs⟩
 | star (x : S28) (hx : Fit l x) : View l ⟨7, 0, 0, [x]⟩
theorem view {l : List S56} {e : S28} (h : Fit l e) : View l e := by
 obtain ⟨hf, hb⟩ := h
 rw [tformed_eq, Bool.and_eq_true] at hf
 rw [tbad_eq, Bool.or_eq_false_iff] at hb
 obtain ⟨k, a, b, xs⟩ := e
 obtain ⟨hs, hfl⟩ := hf
 obtain ⟨hn, hbl⟩ := hb
 have kids : ∀ z ∈ xs, Fit l z := fun z hz => ⟨tformedL_mem hfl hz, tbadL_mem hbl hz⟩
 simp only [shF] at hs
 simp only [ovNm] at hn
 by_cases h1 : k = 1 ∨ k = 2
 ·rw [if_pos h1] at hs
  simp only [Bool.and_eq_true, beq_iff_eq] at hs
  obtain ⟨hx, rfl, rfl⟩ := hs
  obtain rfl := List.length_eq_zero_iff.mp hx
  rcases h1 with rfl | rfl
  ·exact .none
  ·exact .void
 rw [if_neg h1] at hs
 by_cases h3 : k = 3
 ·subst h3
  rw [if_pos rfl] at hs hn
  simp only [Bool.and_eq_true, beq_iff_eq] at hs
  obtain ⟨hx, rfl⟩ := hs
  obtain rfl := List.length_eq_zero_iff.mp hx
  rw [Bool.false_or, beq_eq_false_iff_ne] at hn
  obtain ⟨a0, a1, _⟩ := of_in (l := l) (i := a) rfl hn
  exact .sym a a0 a1
 rw [if_neg h3] at hs hn
 by_cases h4 : k = 4
 ·subst h4
  rw [if_pos rfl] at hs hn
  simp only [beq_iff_eq] at hs
  simp only [Bool.false_or, Bool.or_eq_false_iff, bne_eq_false_iff_eq] at hn
  obtain ⟨x, rfl⟩ := List.length_eq_one_iff.mp hs
  obtain ⟨a0, a1, a2⟩ := of_in hn.1 (by decide)
  obtain ⟨b0, b1, b2⟩ := of_in hn.2 (by decide)
  exact .nest a b x a0 a1 a2 b0 b1 b2 (kids x (by simp))
 rw [if_neg h4] at hs
 by_cases h5 : k = 5 ∨ k = 6
 ·rw [if_pos h5] at hs
  simp only [Bool.and_eq_true, beq_iff_eq, decide_eq_true_eq] at hs
  obtain ⟨hx, rfl, rfl⟩ := hs
  obtain ⟨x, y, ys, rfl⟩ : ∃ x y ys, xs = x :: y :: ys := by
   cases xs with
   | nil => simp at hx
   | cons x t =>
    cases t with
    | nil => simp at hx
    | cons y ys => exact ⟨x, y, ys, rfl⟩
  rcases h5 with rfl | rfl
  ·exact .cat x y ys kids
  ·exact .or x y ys kids
 rw [if_neg h5] at hs
 by_cases h7 : k = 7
 ·subst h7
  rw [if_pos rfl] at hs
  simp only [Bool.and_eq_true, beq_iff_eq] at hs
  obtain ⟨hx, rfl, rfl⟩ := hs
  obtain ⟨x, rfl⟩ := List.length_eq_one_iff.mp hx
  exact .star x (kids x (by simp))
 ·rw [if_neg h7] at hs; cases hs
/-! ### heads -/
def SepR (r : List UInt8) : Prop := ∀ c, r.head? = some c → letB c = false
theorem SepR.cons {c : UInt8} {r : List UInt8} (h : letB c = false) : SepR (c :: r) := fun d hd => by simp at hd; rw [← hd]; exact h
theorem SepR.nil : SepR [] := fun d hd => by simp at hd
structure Begs (u : List UInt8) : Prop where
 begins : (tokAt u).1.begins = true
 noBlank : u.head? ≠ some 32
theorem begs_one (c : UInt8) (h : c = 48 ∨ c = 49 ∨ c = 40) (r : List UInt8) : Begs (c :: r) := by
 rcases h with rfl | rfl | rfl <;> exact ⟨rfl, by simp⟩
theorem symT_tok {l : List S56} (hg : goodB l = true) {a : Int} (h0 : 0 ≤ a) (h1 : a < (l.length : Int)) {r : List UInt8} (hr : SepR r) : tokAt (symT l a ++ r) = (.sym (nameT l a) (rd_T56 l a).f1, (symT l a).length) := by
 have hn := good_nm hg h0 h1
 unfold symT
 rcases kind_of (good_kinds hg) h0 h1 with k | k | k <;> rw [k]
 ·rw [if_pos rfl]
  have := tok_opens (r := r) hn
  simpa using this
 ·rw [if_neg (by decide), if_pos rfl]
  have := tok_closes (r := r) hn
  simpa using this
 ·rw [if_neg (by decide), if_neg (by decide)]
  exact tok_plain hn hr
theorem symT_head {l : List S56} (hg : goodB l = true) {a : Int} (h0 : 0 ≤ a) (h1 : a < (l.length : Int)) (r : List UInt8) : (symT l a ++ r).head? ≠ some 32 := by
 have hn := good_nm hg h0 h1
 unfold symT
 split
 ·simp
 ·split
  ·simp
  ·exact head_ne hn r 32 (by decide)
theorem joinTail_cons (sep x : List UInt8) (r : List (List UInt8)) : Lib.joinTail sep (x :: r) = sep ++ x ++ Lib.joinTail sep r := by simp [Lib.joinTail]
theorem joinTail_nil (sep : List UInt8) : Lib.joinTail sep [] = [] := by simp [Lib.joinTail]
theorem heldsT_cons (l : List S56) (cat : Bool) (x : S28) (xs : List S28) : heldsT l cat (x :: xs) = held cat x.f0 (textT l x) :: heldsT l cat xs := by rw [heldsT]
theorem heldsT_nil (l : List S56) (cat : Bool) : heldsT l cat [] = [] := by rw [heldsT]
theorem textT_none (l : List S56) (a b : Int) (xs : List S28) : textT l ⟨1, a, b, xs⟩ = [48] := by rw [textT]; rfl
theorem textT_void (l : List S56) (a b : Int) (xs : List S28) : textT l ⟨2, a, b, xs⟩ = [49] := by rw [textT]; rfl
theorem textT_sym (l : List S56) (a b : Int) (xs : List S28) : textT l ⟨3, a, b, xs⟩ = symT l a := by rw [textT]; rfl
theorem textT_nest (l : List S56) (a b : Int) (x : S28) : textT l ⟨4, a, b, [x]⟩ = 60 :: (nameT l a ++ 91 :: 32 :: (textT l x ++ 32 :: 93 :: (nameT l b ++ [62]))) := by
 rw [textT, if_neg (by decide), if_neg (by decide), if_pos rfl, textsT, textsT]; simp
theorem textT_cat (l : List S56) (a b : Int) (x : S28) (xs : List S28) : textT l ⟨5, a, b, x :: xs⟩ = held true x.f0 (textT l x) ++ Lib.joinTail [32] (heldsT l true xs) := by
 rw [textT, if_neg (by decide), if_neg (by decide), if_neg (by decide), if_pos rfl, heldsT, Lib.join_cons]
theorem textT_or (l : List S56) (a b : Int) (x : S28) (xs : List S28) : textT l ⟨6, a, b, x :: xs⟩ = held false x.f0 (textT l x) ++ Lib.joinTail [32, 124, 32] (heldsT l false xs) := by
 rw [textT, if_neg (by decide), if_neg (by decide), if_neg (by decide), if_neg (by decide), if_pos rfl, heldsT, Lib.join_cons]
theorem textT_star (l : List S56) (a b : Int) (x : S28) : textT l ⟨7, a, b, [x]⟩ = held true x.f0 (textT l x) ++ [42] := by
 rw [textT, if_neg (by decide), if_neg (by decide), if_neg (by decide), if_neg (by decide), if_neg (by decide), if_pos rfl, heldsT, heldsT]; simp
theorem held_par (cat : Bool) (k : Int) (s : List UInt8) (h : k = 6 ∨ cat = true ∧ k = 5) : held cat k s = 40 :: 32 :: (s ++ [32, 41]) := by unfold held; rw [if_pos h]; simp
theorem held_bare (cat : Bool) (k : Int) (s : List UInt8) (h : ¬ (k = 6 ∨ cat = true ∧ k = 5)) : held cat k s = s := by unfold held; rw [if_neg h]
theorem begs_held {cat : Bool} {k : Int} {s r : List UInt8} (h : ∀ r', SepR r' → Begs (s ++ r')) (hr : SepR r) : Begs (held cat k s ++ r) := by
 by_cases hp : k = 6 ∨ cat = true ∧ k = 5
 ·rw [held_par _ _ _ hp]; exact begs_one 40 (.inr (.inr rfl)) _
 ·rw [held_bare _ _ _ hp]; exact h r hr
theorem sep_tail (sep : List UInt8) (hs : sep.head? = some 32) : ∀ (xs : List (List UInt8)) (r : List UInt8), SepR r → SepR (Lib.joinTail sep xs ++ r)
 | [], r, hr => by rw [joinTail_nil]; exact hr
 | x :: xs, r, hr => by
  rw [joinTail_cons]
  cases sep with
  | nil => simp at hs
  | cons c t =>
   simp at hs
   subst hs
   exact SepR.cons (by decide)
theorem begs_text {l : List S56} (hg : goodB l = true) : ∀ (n : Nat) (e : S28), tsize e ≤ n → Fit l e → ∀ r, SepR r → Begs (textT l e ++ r)
 | 0, e, h, _, _, _ => by rw [tsize_eq] at h; omega
 | n + 1, e, h, hf, r, hr => by
  have hv := view hf
  cases hv with
  | none => rw [textT_none]; exact begs_one 48 (.inl rfl) _
  | void => rw [textT_void]; exact begs_one 49 (.inr (.inl rfl)) _
  | sym a h0 h1 =>
   rw [textT_sym]
   exact ⟨by rw [symT_tok hg h0 h1 hr]; rfl, symT_head hg h0 h1 r⟩
  | nest a b x a0 a1 a2 b0 b1 b2 hx =>
   rw [textT_nest, List.cons_append, List.append_assoc, List.cons_append]
   exact ⟨by rw [tok_nest (good_nm hg a0 a1)]; rfl, by simp⟩
  | cat x y xs hx =>
   rw [textT_cat, List.append_assoc]
   have hz := tsize_mem (l := x :: y :: xs) (x := x) (by simp)
   rw [tsize_eq] at h
   exact begs_held (fun r' hr' => begs_text hg n x (by simp only at h; omega) (hx x (by simp)) r' hr') (sep_tail _ rfl _ _ hr)
  | or x y xs hx =>
   rw [textT_or, List.append_assoc]
   have hz := tsize_mem (l := x :: y :: xs) (x := x) (by simp)
   rw [tsize_eq] at h
   exact begs_held (fun r' hr' => begs_text hg n x (by simp only at h; omega) (hx x (by simp)) r' hr') (sep_tail _ rfl _ _ hr)
  | star x hx =>
   rw [textT_star, List.append_assoc]
   have hz := tsize_mem (l := [x]) (x := x) (by simp)
   rw [tsize_eq] at h
   exact begs_held (fun r' hr' => begs_text hg n x (by simp only at h; omega) hx r' hr') (SepR.cons (by decide))
/-! ### reading -/
theorem Rs.and_ev {f : Nat → Option Rs} {g : Nat → S28 → Nat → Option Rs} {v : S28} {p : Nat} {R : Rs} (h : Ev f (.ok v p)) (h2 : Ev (fun k => g k v p) R) : Ev (fun k => Rs.and (f k) (g k)) R := by
 obtain ⟨K, hK⟩ := h
 obtain ⟨K2, hK2⟩ := h2
 refine ⟨max K K2, fun k hk => ?_⟩
 show Rs.and (f k) (g k) = _
 rw [hK k (by omega)]
 exact hK2 k (by omega)
end Go.Proofs.YtodbnnfiadcbaaaL
