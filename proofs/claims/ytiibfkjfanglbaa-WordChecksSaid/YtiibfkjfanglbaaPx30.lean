-- written by pp.py (wip/tools of this session's repo) out of the seat's translation
import Derived.Test.YtiibfkjfanglbaaPx0
import Derived.Test.YtiibfkjfanglbaaPx2
import Derived.Test.YtiibfkjfanglbaaPx3
import Derived.Test.YtiibfkjfanglbaaPx12
import Derived.Test.YtiibfkjfanglbaaPx17
import Derived.Test.YtiibfkjfanglbaaPx29
namespace Go.Proofs.Ytiibfkjfanglbaa.P
open Go.RowKit Go.Proofs.YtiibfkjfanglbaaW.PrintWords Go.Proofs.YtiibfkjfanglbaaW.PrintLast Go.Proofs.YtiibfkjfanglbaaW.PrintMore
attribute [local go_sem] max2_int min2_int max_two min_two max_three min_three max_four min_four   -- for this text's walks alone
set_option linter.unusedVariables false
set_option linter.unusedSimpArgs false

/-! ### canopylaw1_WordChecks: function 5 -/
mutual
def canopylaw1_WordChecks.j0 : Nat → Int → Int → List (S40) → Int → Option (Bool)
  | 0, _, _, _, _ => none
  | k + 1, x4, x5, x13, x14 => (canopylaw1_within.f x5 3).bind fun t318 => (if t318 = 1 then ((some (([(-1), 0, 1, 2, 3, 4, x4] : List Int) : List Int)).bind fun y319 => ((canopylaw1_within.f x4 7).bind fun t322 => (if 0 ≤ t322 then (if t322 < (y319.length : Int) then (if 0 ≤ x14 then (if x14 < (x13.length : Int) then (canopylaw1_WordChecks.j1 k x5 (x13.set (x14 : Int).toNat (⟨(rd_T40 x13 x14).f0, rd y319 t322⟩ : S40)) x14) else (none)) else (none)) else (none)) else (none)))) else (canopylaw1_WordChecks.j1 k x5 x13 x14))
def canopylaw1_WordChecks.j1 : Nat → Int → List (S40) → Int → Option (Bool)
  | 0, _, _, _ => none
  | k + 1, x5, x13, x14 => canopylaw1_WordChecks.l0 k x5 x13 x14 0
def canopylaw1_WordChecks.l0 : Nat → Int → List (S40) → Int → Int → Option (Bool)
  | 0, _, _, _, _ => none
  | k + 1, x5, x13, x14, x15 => (canopylaw1_within.f x5 20).bind fun t325 => (if x15 < t325 then ((some (([(wrap64 (97 + x15)) % 256] : List Int) : List Int)).bind fun y326 => (if 1 + (strOfNums y326).size ≤ 9223372036854775807 then (if x13.length < 5864062014805 then (canopylaw1_WordChecks.l0 k x5 (x13 ++ [(⟨(⟨#[110]⟩ : ByteArray) ++ (strOfNums y326), wrap64 (1 + (Int.tmod x15 3))⟩ : S40)]) x14 (wrap64 (x15 + 1))) else (none)) else (none))) else ((word_Check.f k x13).bind fun t332 => ((canopyref1_Check.f k x13).bind fun t333 => (if t332 = t333 then (if 0 ≤ x14 then (if x14 ≤ (x13.length : Int) then ((word_Check.f k (x13.take (x14 : Int).toNat)).bind fun t338 => ((canopyref1_Check.f k (x13.take (x14 : Int).toNat)).bind fun t343 => (some (t338 == t343)))) else (none)) else (none)) else (some false)))))
end
def canopylaw1_WordChecks.f (k : Nat) (a0 : Int) (l1 : List Int) (a2 : Int) (a3 : ByteArray) (a4 : Int) (a5 : Int) : Option (Bool) := (canopylaw1_known.f k).bind fun t305 => (if t305 = true then (if (a3.size : Int) > 30 then (some true) else ((some (([] : List (S40)) : List (S40))).bind fun y306 => ((canopylaw1_Syms.f a0 l1).bind fun t309 => (if y306.length + t309.length < 5864062014805 then ((some (y306 ++ t309 : List (S40))).bind fun y312 => ((canopylaw1_within.f a2 (y312.length : Int)).bind fun t315 => ((canopylaw1_within.f a5 3).bind fun t316 => (if t316 = 0 then (if 0 ≤ t315 then (if t315 < (y312.length : Int) then (canopylaw1_WordChecks.j0 k a4 a5 (y312.set (t315 : Int).toNat (⟨a3, (rd_T40 y312 t315).f1⟩ : S40)) t315) else (none)) else (none)) else (canopylaw1_WordChecks.j0 k a4 a5 y312 t315))))) else (none))))) else (some false))
theorem canopylaw1_WordChecks.mono_l : ∀ k, (∀ y0 y1 y2 y3, LeO (canopylaw1_WordChecks.j0 k y0 y1 y2 y3) (canopylaw1_WordChecks.j0 (k + 1) y0 y1 y2 y3)) ∧ (∀ y0 y1 y2, LeO (canopylaw1_WordChecks.j1 k y0 y1 y2) (canopylaw1_WordChecks.j1 (k + 1) y0 y1 y2)) ∧ (∀ y0 y1 y2 y3, LeO (canopylaw1_WordChecks.l0 k y0 y1 y2 y3) (canopylaw1_WordChecks.l0 (k + 1) y0 y1 y2 y3))
  | 0 => ⟨fun _ _ _ _ r h => by simp [canopylaw1_WordChecks.j0] at h, fun _ _ _ r h => by simp [canopylaw1_WordChecks.j1] at h, fun _ _ _ _ r h => by simp [canopylaw1_WordChecks.l0] at h⟩
  | k + 1 => by
    obtain ⟨ih0, ih1, ih2⟩ := canopylaw1_WordChecks.mono_l k
    refine ⟨?_, ?_, ?_⟩
    · intro y0 y1 y2 y3
      unfold canopylaw1_WordChecks.j0
      repeat' first
      | (with_reducible exact ih0 _ _ _ _)
      | (with_reducible exact ih1 _ _ _)
      | (with_reducible exact ih2 _ _ _ _)
      | (with_reducible exact canopylaw1_known.mono _)
      | (with_reducible exact canopyref1_Check.mono _ _)
      | (with_reducible exact word_Check.mono _ _)
      | (with_reducible exact LeO.refl _)
      | (with_reducible exact LeO.none _)
      | (with_reducible refine LeO.ite ?_ ?_)
      | (with_reducible refine LeO.bind ?_ (fun _ => ?_))
      | exact ih0 _ _ _ _
      | exact ih1 _ _ _
      | exact ih2 _ _ _ _
      | exact canopylaw1_known.mono _
      | exact canopyref1_Check.mono _ _
      | exact word_Check.mono _ _
      | exact LeO.none _
      | refine LeO.ite ?_ ?_
      | refine LeO.bind ?_ (fun _ => ?_)
    · intro y0 y1 y2
      unfold canopylaw1_WordChecks.j1
      repeat' first
      | (with_reducible exact ih0 _ _ _ _)
      | (with_reducible exact ih1 _ _ _)
      | (with_reducible exact ih2 _ _ _ _)
      | (with_reducible exact canopylaw1_known.mono _)
      | (with_reducible exact canopyref1_Check.mono _ _)
      | (with_reducible exact word_Check.mono _ _)
      | (with_reducible exact LeO.refl _)
      | (with_reducible exact LeO.none _)
      | (with_reducible refine LeO.ite ?_ ?_)
      | (with_reducible refine LeO.bind ?_ (fun _ => ?_))
      | exact ih0 _ _ _ _
      | exact ih1 _ _ _
      | exact ih2 _ _ _ _
      | exact canopylaw1_known.mono _
      | exact canopyref1_Check.mono _ _
      | exact word_Check.mono _ _
      | exact LeO.none _
      | refine LeO.ite ?_ ?_
      | refine LeO.bind ?_ (fun _ => ?_)
    · intro y0 y1 y2 y3
      unfold canopylaw1_WordChecks.l0
      repeat' first
      | (with_reducible exact ih0 _ _ _ _)
      | (with_reducible exact ih1 _ _ _)
      | (with_reducible exact ih2 _ _ _ _)
      | (with_reducible exact canopylaw1_known.mono _)
      | (with_reducible exact canopyref1_Check.mono _ _)
      | (with_reducible exact word_Check.mono _ _)
      | (with_reducible exact LeO.refl _)
      | (with_reducible exact LeO.none _)
      | (with_reducible refine LeO.ite ?_ ?_)
      | (with_reducible refine LeO.bind ?_ (fun _ => ?_))
      | exact ih0 _ _ _ _
      | exact ih1 _ _ _
      | exact ih2 _ _ _ _
      | exact canopylaw1_known.mono _
      | exact canopyref1_Check.mono _ _
      | exact word_Check.mono _ _
      | exact LeO.none _
      | refine LeO.ite ?_ ?_
      | refine LeO.bind ?_ (fun _ => ?_)
theorem canopylaw1_WordChecks.mono : ∀ a0 a1 a2 a3 a4 a5 k, LeO (canopylaw1_WordChecks.f k a0 a1 a2 a3 a4 a5) (canopylaw1_WordChecks.f (k + 1) a0 a1 a2 a3 a4 a5) := by
  intro a0 a1 a2 a3 a4 a5 k
  obtain ⟨ih0, ih1, ih2⟩ := canopylaw1_WordChecks.mono_l k
  unfold canopylaw1_WordChecks.f
  repeat' first
      | (with_reducible exact ih0 _ _ _ _)
      | (with_reducible exact ih1 _ _ _)
      | (with_reducible exact ih2 _ _ _ _)
      | (with_reducible exact canopylaw1_known.mono _)
      | (with_reducible exact canopyref1_Check.mono _ _)
      | (with_reducible exact word_Check.mono _ _)
      | (with_reducible exact LeO.refl _)
      | (with_reducible exact LeO.none _)
      | (with_reducible refine LeO.ite ?_ ?_)
      | (with_reducible refine LeO.bind ?_ (fun _ => ?_))
      | exact ih0 _ _ _ _
      | exact ih1 _ _ _
      | exact ih2 _ _ _ _
      | exact canopylaw1_known.mono _
      | exact canopyref1_Check.mono _ _
      | exact word_Check.mono _ _
      | exact LeO.none _
      | refine LeO.ite ?_ ?_
      | refine LeO.bind ?_ (fun _ => ?_)
def canopylaw1_WordChecks.T15 : Bool × List (List Nat × List Nat) := (true, [([], []), ([0], [0]), ([], []), ([2, 1], [2]), ([1, 3], [1, 3]), ([4, 3], [4]), ([5], [5]), ([5], [5]), ([6, 7, 5], [5, 6, 7]), ([8, 5, 5], [5, 8]), ([5], [5]), ([5], [5]), ([10, 11, 5], [5, 10, 11]), ([12, 9, 5], [5, 12]), ([9, 13, 5], [5, 9, 13]), ([5, 14], [5, 14]), ([15, 13, 0, 1, 2, 3, 4, 5, 6, 7, 8, 9, 10, 11, 12, 13, 14, 15], [15])])
def canopylaw1_WordChecks.B15 : List Nat := [0, 1, 0, 7, 15, 31, 63, 63, 255, 511, 63, 63, 3135, 8191, 16383, 32767, 65535]
theorem canopylaw1_WordChecks.tab15 : rtab .any (opsOf Try.f5 15) = canopylaw1_WordChecks.T15 := by kernel_rfl
theorem canopylaw1_WordChecks.bits15 : waitsOk canopylaw1_WordChecks.T15.2 canopylaw1_WordChecks.B15 = true := by kernel_rfl
set_option maxHeartbeats 8000000 in
set_option maxRecDepth 100000 in
theorem canopylaw1_WordChecks.calls (k : Nat) (a0 : Int) (A1 : Option Addr) (c1 : Nat) (l1 : List Int) (a2 : Int) (a3 : ByteArray) (a4 : Int) (a5 : Int) (r : Bool) (w : World) (hr1 : Kd.C (Kd.int .i64) w A1 l1.length l1) (hc1 : l1.length ≤ c1) (h : canopylaw1_WordChecks.f k a0 l1 a2 a3 a4 a5 = some r) :
    Calls Try.prog 5 #[.int .i64 a0, .slice A1 l1.length c1, .int .i64 a2, .string a3, .int .i64 a4, .int .i64 a5] w fun e w' => e = .returned (.bool r) ∧ Below w.heap.size w w' := by
  have hu40 := Try.underlying40
  have HR1 := Aside0.mk hr1
  have HC1 := Aside0.mk hc1
  clear hr1 hc1
  have HB := Aside0.mk (Below.refl w.heap.size w)
  have H : ((canopylaw1_known.f k).bind fun t305 => (if t305 = true then (if (a3.size : Int) > 30 then (some true) else ((some (([] : List (S40)) : List (S40))).bind fun y306 => ((canopylaw1_Syms.f a0 l1).bind fun t309 => (if y306.length + t309.length < 5864062014805 then ((some (y306 ++ t309 : List (S40))).bind fun y312 => ((canopylaw1_within.f a2 (y312.length : Int)).bind fun t315 => ((canopylaw1_within.f a5 3).bind fun t316 => (if t316 = 0 then (if 0 ≤ t315 then (if t315 < (y312.length : Int) then (canopylaw1_WordChecks.j0 k a4 a5 (y312.set (t315 : Int).toNat (⟨a3, (rd_T40 y312 t315).f1⟩ : S40)) t315) else (none)) else (none)) else (canopylaw1_WordChecks.j0 k a4 a5 y312 t315))))) else (none))))) else (some false))) = some r := h
  clear h
  replace H := Option.bind_eq_some_iff.mp H
  obtain ⟨t305, A70, H⟩ := H
  replace H : (if t305 = true then (if (a3.size : Int) > 30 then (some true) else ((some (([] : List (S40)) : List (S40))).bind fun y306 => ((canopylaw1_Syms.f a0 l1).bind fun t309 => (if y306.length + t309.length < 5864062014805 then ((some (y306 ++ t309 : List (S40))).bind fun y312 => ((canopylaw1_within.f a2 (y312.length : Int)).bind fun t315 => ((canopylaw1_within.f a5 3).bind fun t316 => (if t316 = 0 then (if 0 ≤ t315 then (if t315 < (y312.length : Int) then (canopylaw1_WordChecks.j0 k a4 a5 (y312.set (t315 : Int).toNat (⟨a3, (rd_T40 y312 t315).f1⟩ : S40)) t315) else (none)) else (none)) else (canopylaw1_WordChecks.j0 k a4 a5 y312 t315))))) else (none))))) else (some false)) = some r := H
  have A7 := Aside0.mk A70
  clear A70
  by_cases c8 : t305 = true
  · subst c8
    have H1 : (if (a3.size : Int) > 30 then (some true) else ((some (([] : List (S40)) : List (S40))).bind fun y306 => ((canopylaw1_Syms.f a0 l1).bind fun t309 => (if y306.length + t309.length < 5864062014805 then ((some (y306 ++ t309 : List (S40))).bind fun y312 => ((canopylaw1_within.f a2 (y312.length : Int)).bind fun t315 => ((canopylaw1_within.f a5 3).bind fun t316 => (if t316 = 0 then (if 0 ≤ t315 then (if t315 < (y312.length : Int) then (canopylaw1_WordChecks.j0 k a4 a5 (y312.set (t315 : Int).toNat (⟨a3, (rd_T40 y312 t315).f1⟩ : S40)) t315) else (none)) else (none)) else (canopylaw1_WordChecks.j0 k a4 a5 y312 t315))))) else (none))))) = some r := by rw [if_pos rfl] at H; exact H
    clear H
    have H := H1
    clear H1
    by_cases c9 : (a3.size : Int) > 30
    · rw [if_pos c9] at H
      have c9b0 : decide (30 < (a3.size : Int)) = true := decide_eq_true c9
      have c9b1 : decide (30 < a3.size) = true := decide_eq_true (by omega)
      clear c9
      obtain rfl := Option.some.inj H
      go_enter Try.func5, Try.ntmps5
      go_wp2_with (first | ((with_reducible refine gate_callee (f := 13) rfl ?_); refine goesL_ (some 16) rfl rfl Try.func13 (by kernel_rfl) rfl #[] rfl (by (try simp only [List.map_toArray, List.map_cons, List.map_nil]); first | done | rfl | (simp only [List.length_drop, List.length_take]; rfl)) ?_; (with_reducible refine (canopylaw1_known.calls k  true _ A7.out).mono ?_); rintro e w10 ⟨rfl, hb⟩; refine ⟨_, rfl, ?_⟩; have n0_ := Aside0.mk (below_step (by repeat (first | (with_reducible first | exact HB.out | apply below_alloc | apply pw_below_drewN | apply below_drew1) | exact HB.out)) hb); clear HB; have HB := n0_; clear n0_; (try clear hb); (try clear hb2); (try clear hk); (try clear hi)))
      go_ret
      exact ⟨by first | rfl | (simp [errW_none, errW_some] <;> rfl) | (simp [*, errW_none, errW_some] <;> rfl), by repeat (first | (with_reducible first | exact HB.out | apply below_alloc | apply pw_below_drewN | apply below_drew1) | exact HB.out)⟩
    · rw [if_neg c9] at H
      have c9b0 : decide (30 < (a3.size : Int)) = false := decide_eq_false c9
      have c9b1 : decide (30 < a3.size) = false := decide_eq_false (by omega)
      clear c9
      obtain ⟨y306, hy306⟩ : ∃ y_ : List (S40), y_ = (([] : List (S40))) := ⟨_, rfl⟩
      replace H : ((canopylaw1_Syms.f a0 l1).bind fun t309 => (if y306.length + t309.length < 5864062014805 then ((some (y306 ++ t309 : List (S40))).bind fun y312 => ((canopylaw1_within.f a2 (y312.length : Int)).bind fun t315 => ((canopylaw1_within.f a5 3).bind fun t316 => (if t316 = 0 then (if 0 ≤ t315 then (if t315 < (y312.length : Int) then (canopylaw1_WordChecks.j0 k a4 a5 (y312.set (t315 : Int).toNat (⟨a3, (rd_T40 y312 t315).f1⟩ : S40)) t315) else (none)) else (none)) else (canopylaw1_WordChecks.j0 k a4 a5 y312 t315))))) else (none))) = some r := by first | (rw [hy306]; with_reducible exact H) | (have H2_ := (Option.bind_some _ _).symm.trans H; rw [hy306]; with_reducible exact H2_) | (have H2_ := (Option.bind_some _ _).symm.trans H; with_reducible exact H2_) | with_reducible exact H | (rw [hy306]; exact H) | exact H
      have Ny306 := Aside0.mk hy306
      clear hy306
      replace H := Option.bind_eq_some_iff.mp H
      obtain ⟨t309, A110, H⟩ := H
      replace H : (if y306.length + t309.length < 5864062014805 then ((some (y306 ++ t309 : List (S40))).bind fun y312 => ((canopylaw1_within.f a2 (y312.length : Int)).bind fun t315 => ((canopylaw1_within.f a5 3).bind fun t316 => (if t316 = 0 then (if 0 ≤ t315 then (if t315 < (y312.length : Int) then (canopylaw1_WordChecks.j0 k a4 a5 (y312.set (t315 : Int).toNat (⟨a3, (rd_T40 y312 t315).f1⟩ : S40)) t315) else (none)) else (none)) else (canopylaw1_WordChecks.j0 k a4 a5 y312 t315))))) else (none)) = some r := H
      have A11 := Aside0.mk A110
      clear A110
      by_cases c12 : y306.length + t309.length < 5864062014805
      · rw [if_pos c12] at H
        have LMc12 := Aside0.mk c12
        clear c12
        obtain ⟨y312, hy312⟩ : ∃ y_ : List (S40), y_ = (y306 ++ t309) := ⟨_, rfl⟩
        replace H : ((canopylaw1_within.f a2 (y312.length : Int)).bind fun t315 => ((canopylaw1_within.f a5 3).bind fun t316 => (if t316 = 0 then (if 0 ≤ t315 then (if t315 < (y312.length : Int) then (canopylaw1_WordChecks.j0 k a4 a5 (y312.set (t315 : Int).toNat (⟨a3, (rd_T40 y312 t315).f1⟩ : S40)) t315) else (none)) else (none)) else (canopylaw1_WordChecks.j0 k a4 a5 y312 t315)))) = some r := by first | (rw [hy312]; with_reducible exact H) | (have H2_ := (Option.bind_some _ _).symm.trans H; rw [hy312]; with_reducible exact H2_) | (have H2_ := (Option.bind_some _ _).symm.trans H; with_reducible exact H2_) | with_reducible exact H | (rw [hy312]; exact H) | exact H
        have Ny312 := Aside0.mk hy312
        clear hy312
        replace H := Option.bind_eq_some_iff.mp H
        obtain ⟨t315, A130, H⟩ := H
        replace H : ((canopylaw1_within.f a5 3).bind fun t316 => (if t316 = 0 then (if 0 ≤ t315 then (if t315 < (y312.length : Int) then (canopylaw1_WordChecks.j0 k a4 a5 (y312.set (t315 : Int).toNat (⟨a3, (rd_T40 y312 t315).f1⟩ : S40)) t315) else (none)) else (none)) else (canopylaw1_WordChecks.j0 k a4 a5 y312 t315))) = some r := H
        have A13 := Aside0.mk A130
        clear A130
        replace H := Option.bind_eq_some_iff.mp H
        obtain ⟨t316, A140, H⟩ := H
        replace H : (if t316 = 0 then (if 0 ≤ t315 then (if t315 < (y312.length : Int) then (canopylaw1_WordChecks.j0 k a4 a5 (y312.set (t315 : Int).toNat (⟨a3, (rd_T40 y312 t315).f1⟩ : S40)) t315) else (none)) else (none)) else (canopylaw1_WordChecks.j0 k a4 a5 y312 t315)) = some r := H
        have A14 := Aside0.mk A140
        clear A140
        have HC15 := Aside0.mk H
        clear H
        go_enter Try.func5, Try.ntmps5
        go_upto_if 32 with (first | ((with_reducible refine gate_callee (f := 13) rfl ?_); refine goesL_ (some 16) rfl rfl Try.func13 (by kernel_rfl) rfl #[] rfl (by (try simp only [List.map_toArray, List.map_cons, List.map_nil]); first | done | rfl | (simp only [List.length_drop, List.length_take]; rfl)) ?_; (with_reducible refine (canopylaw1_known.calls k  true _ A7.out).mono ?_); rintro e w16 ⟨rfl, hb⟩; refine ⟨_, rfl, ?_⟩; have n0_ := Aside0.mk (below_step (by repeat (first | (with_reducible first | exact HB.out | apply below_alloc | apply pw_below_drewN | apply below_drew1) | exact HB.out)) hb); clear HB; have HB := n0_; clear n0_; (try clear hb); (try clear hb2); (try clear hk); (try clear hi)) | ((with_reducible refine gate_dst (N := 21) rfl ?_); refine Kd.R_lit k40 _ 40 ?hg (N := 21) ?hd (xs := ([] : List (S40))) (inner := []) (ok := fun _ => True) (okp := fun _ => True) ?hr ?hp (fun _ hk => hk) trivial (Below.refl _ _) (Nat.le_refl _) (by simp) ?_; (case hd => rfl); (case hg => rfl); (case hr => first | (go_simp; done) | (go_simp; rfl)); (case hp => exact (Reps.none _ _)); intro v307 w17 ho18 hb hg_ hnew_; clear hg_ hnew_; (first | rw [← Ny306.out] at ho18 | (simp only [Int.reduceToNat] at ho18; rw [← Ny306.out] at ho18)); have n0_ := Aside0.mk (Kd.R_lower ho18 (below_size (by repeat (first | (with_reducible first | exact HB.out | apply below_alloc | apply pw_below_drewN | apply below_drew1) | exact HB.out)))); have n1_ := Aside0.mk (below_step (by repeat (first | (with_reducible first | exact HB.out | apply below_alloc | apply pw_below_drewN | apply below_drew1) | exact HB.out)) hb); clear HB; have HO308 := n0_; have HB := n1_; clear n0_ n1_; clear hb ho18) | ((with_reducible refine gate_callee (f := 14) rfl ?_); refine goesL_ (some 24) rfl rfl Try.func14 (by kernel_rfl) rfl #[.int .i64 a0, .slice A1 l1.length c1] rfl (by (try simp only [List.map_toArray, List.map_cons, List.map_nil]); first | done | rfl | (simp only [List.length_drop, List.length_take]; rfl)) ?_; (with_reducible refine (canopylaw1_Syms.calls a0 _ _ l1 t309 _ ?side1 ?side2 A11.out).mono ?_); (case side1 => repeat (first | exact (Kd.C_below HR1.out HB.out) | (with_reducible refine Kd.C_alloc ?_ _) | (with_reducible refine Kd.C_drewN ?_ _) | (with_reducible refine Kd.C_drew ?_))); (case side2 => exact HC1.out); rintro e w19 ⟨v310, rfl, ho0, hb⟩; refine ⟨_, rfl, ?_⟩; have n0_ := Aside0.mk (Kd.R_elder' (by (with_reducible repeat (first | apply Kd.R_alloc | apply Kd.R_drewN | apply Kd.R_drew)); exact HO308.out) (Kd.R_base ho0) hb); have n1_ := Aside0.mk (Kd.R_lower (Kd.R_new' ho0 (Kd.R_lt (by (with_reducible repeat (first | apply Kd.R_alloc | apply Kd.R_drewN | apply Kd.R_drew)); exact HO308.out))) (below_size (by repeat (first | (with_reducible first | exact HB.out | apply below_alloc | apply pw_below_drewN | apply below_drew1) | exact HB.out)))); have n2_ := Aside0.mk (below_step (by repeat (first | (with_reducible first | exact HB.out | apply below_alloc | apply pw_below_drewN | apply below_drew1) | exact HB.out)) hb); clear HO308; clear HB; have HO308 := n0_; have HO311 := n1_; have HB := n2_; clear n0_ n1_ n2_; (try clear hb); (try clear hb2); (try clear hk); (try clear hi); (try clear ho0); obtain ⟨Ao21, co21, eo21⟩ := Kd.R_slice HO311.out; subst eo21) | ((with_reducible refine gate_builtin (b := .append) (xs := #[.tmp 21, .tmp 24]) rfl ?_); at_builtin; refine Kd.R_append_rows k40 (w0 := w) w.heap.size rfl (.tmp 21) (.tmp 24) 24 40 (.agg #[(.string ⟨#[]⟩), (.int .i64 0)]) 24 rfl Try.underlying24 info40 rfl (by decide) (by omega) v307 y306 t309 _ _ _ (fun k_ => some k_ ≠ (.slice Ao21 t309.length co21 : Value).ownBlock) (fun _ => False) rfl rfl ?aO ?aR (fun _ _ h => h) (fun _ h => h.elim) ?aF ?aB ?aS ?aL ?_; (case aR => repeat (first | exact (Kd.R_reads' HO311.out).2.2 | (with_reducible refine Kd.C_alloc ?_ _) | (with_reducible refine Kd.C_drewN ?_ _) | (with_reducible refine Kd.C_drew ?_))); (case aB => exact (by repeat (first | (with_reducible first | exact HB.out | apply below_alloc | apply pw_below_drewN | apply below_drew1) | exact HB.out))); (case aF => exact (fun k_ hk => Kd.fresh' (Kd.R_lt (by (with_reducible repeat (first | apply Kd.R_alloc | apply Kd.R_drewN | apply Kd.R_drew)); exact HO311.out)) k_ hk)); (case aO => exact (by (with_reducible repeat (first | apply Kd.R_alloc | apply Kd.R_drewN | apply Kd.R_drew)); exact Kd.R_mono HO308.out (fun _ hk => hk.2))); (case aS => exact (below_size (by repeat (first | (with_reducible first | exact HB.out | apply below_alloc | apply pw_below_drewN | apply below_drew1) | exact HB.out)))); (case aL => have := LMc12.out; omega); intro v313 w20 ho hb hg hat; rw [← Ny312.out] at ho; have n0_ := Aside0.mk (Kd.R_after (ok := (fun _ => True)) (by (with_reducible repeat (first | apply Kd.R_alloc | apply Kd.R_drewN | apply Kd.R_drew)); exact HO311.out) hg hat); have n1_ := Aside0.mk (hb); have n2_ := Aside0.mk (ho); clear HO311; clear HB; clear HO308; have HO311 := n0_; have HB := n1_; have HO314 := n2_; clear n0_ n1_ n2_; clear ho hb hg hat; obtain ⟨Ao22, co22, eo22⟩ := Kd.R_slice HO314.out; subst eo22) | ((with_reducible refine gate_callee (f := 18) rfl ?_); refine goesL_ (some 29) rfl rfl Try.func18 (by kernel_rfl) rfl #[.int .i64 a2, .int .i64 (y312.length : Int)] rfl (by (try simp only [List.map_toArray, List.map_cons, List.map_nil]); first | done | rfl | (simp only [List.length_drop, List.length_take]; rfl)) ?_; (with_reducible refine (canopylaw1_within.calls a2 (y312.length : Int) t315 _ A13.out).mono ?_); rintro e w' ⟨rfl, rfl⟩; refine ⟨_, rfl, ?_⟩) | ((with_reducible refine gate_callee (f := 18) rfl ?_); refine goesL_ (some 31) rfl rfl Try.func18 (by kernel_rfl) rfl #[.int .i64 a5, .int .i64 3] rfl (by (try simp only [List.map_toArray, List.map_cons, List.map_nil]); first | done | rfl | (simp only [List.length_drop, List.length_take]; rfl)) ?_; (with_reducible refine (canopylaw1_within.calls a5 3 t316 _ A14.out).mono ?_); rintro e w' ⟨rfl, rfl⟩; refine ⟨_, rfl, ?_⟩))
        (try simp only [Act.put, List.setIfInBounds_toArray, List.set_cons_zero, List.set_cons_succ])
        go_cut [] (fun wc => ∃ (kq : Nat) (x13_14 : List (S40)), Aside0 (canopylaw1_WordChecks.j0 kq a4 a5 x13_14 t315 = some r) ∧ Aside0 (kq ≤ k) ∧ Aside0 (Kd.R k40 40 wc w.heap.size (fun _ => True) (.slice Ao22 y312.length co22) x13_14) ∧ Aside0 (Below w.heap.size w wc))
        case first =>
          have H := HC15.out
          clear HC15
          by_cases c23 : t316 = 0
          · rw [if_pos c23] at H
            have c23b0 : (t316 == 0) = true := beq_iff_eq.mpr c23
            have c23b1 : (t316 != 0) = false := bne_eq_false_iff_eq.mpr c23
            clear c23
            (first | rw [c23b0] | (simp only [i64_w, i32_w]; rw [c23b0]) | skip)
            by_cases c24 : 0 ≤ t315
            · rw [if_pos c24] at H
              have c24b0 : decide (0 ≤ t315) = true := decide_eq_true c24
              clear c24
              by_cases c25 : t315 < (y312.length : Int)
              · rw [if_pos c25] at H
                have c25b0 : decide (t315 < (y312.length : Int)) = true := decide_eq_true c25
                clear c25
                obtain ⟨y317, hy317⟩ : ∃ y_ : List (S40), y_ = (y312.set (t315 : Int).toNat (⟨a3, (rd_T40 y312 t315).f1⟩ : S40)) := ⟨_, rfl⟩
                replace H : (canopylaw1_WordChecks.j0 k a4 a5 y317 t315) = some r := by first | (rw [hy317]; with_reducible exact H) | (have H2_ := (Option.bind_some _ _).symm.trans H; rw [hy317]; with_reducible exact H2_) | (have H2_ := (Option.bind_some _ _).symm.trans H; with_reducible exact H2_) | with_reducible exact H | (rw [hy317]; exact H) | exact H
                have Ny317 := Aside0.mk hy317
                clear hy317
                have H' := Aside0.mk H
                clear H
                have p26 : 0 ≤ (t315 : Int) := of_decide_eq_true (by first | (with_reducible assumption) | assumption)
                have q26 : (t315 : Int) < ((y312.length : Int) : Int) := of_decide_eq_true (by first | (with_reducible assumption) | assumption)
                obtain ⟨go26, co26, eo26, gb26, gl26, cl26, HG26⟩ := Kd.R_form HO314.out (by omega)
                (first | cases eo26 | (injection eo26 with ea_ en_ ec_; (first | subst ea_ | (injection ea_ with ea_; subst ea_)); subst ec_; clear en_))
                have GB26 := Aside0.mk gb26
                have GG26 := Aside0.mk HG26
                clear gb26 gl26 HG26
                obtain ⟨ce26, hcl26, hM26, hcc26, hfr26⟩ := Kd.R_elem HO314.out z40 (t315 : Int) p26 q26
                obtain rfl := k40_openM hM26
                have hx26_0 : w20.cell? ⟨go26, (t315 : Int).toNat * 2, none⟩ = some (.string ((rd_T40 y312 t315).f0)) := hcc26 0 _ rfl
                have hx26_1 : w20.cell? ⟨go26, (t315 : Int).toNat * 2 + 1, none⟩ = some (.int .i64 ((rd_T40 y312 t315).f1)) := hcc26 1 _ rfl
                have hf26_0 : w20.frozen? ⟨go26, (t315 : Int).toNat * 2, none⟩ = false := hfr26 0
                have hf26_1 : w20.frozen? ⟨go26, (t315 : Int).toNat * 2 + 1, none⟩ = false := hfr26 1
                clear hcl26 hcc26 hfr26 hM26
                replace p26 := eq_true p26
                replace q26 := eq_true q26
                have HX27 := Aside0.mk (show Kd.R k40 40 w20 w.heap.size (fun k_ => some k_ ≠ (.slice Ao21 t309.length co21 : Value).ownBlock) (.slice (some ⟨go26, 0, none⟩) y312.length co22) y312 from (by (with_reducible repeat (first | apply Kd.R_alloc | apply Kd.R_drewN | apply Kd.R_drew)); exact HO314.out))
                obtain ⟨ce27, hcl27, hM27, hcc27, hfr27⟩ := Kd.R_elem HX27.out z40 (t315 : Int) (of_decide_eq_true (by first | (with_reducible assumption) | assumption)) (by have h_ : (t315 : Int) < ((y312.length : Int) : Int) := of_decide_eq_true (by first | (with_reducible assumption) | assumption); first | exact h_ | (have e_ := (Kd.R_reads' HO314.out).1; omega) | simpa using h_)
                obtain rfl := k40_openM hM27
                have HP27 := Kd.R_seg HX27.out (t315 : Int) (of_decide_eq_true (by first | (with_reducible assumption) | assumption)) (by have h_ : (t315 : Int) < ((y312.length : Int) : Int) := of_decide_eq_true (by first | (with_reducible assumption) | assumption); first | exact h_ | (have e_ := (Kd.R_reads' HO314.out).1; omega) | simpa using h_) (seg := [.string a3]) (j := 0) hcl27 hcc27 (show 1 ≤ 2 from by decide) (x' := (⟨a3, (rd_T40 y312 t315).f1⟩ : S40)) (k40_mkM _ _ _ (⟨a3, (rd_T40 y312 t315).f1⟩ : S40) ) (fun _ hk => hk)
                have hx27_0 := hcc27 0 _ rfl
                (try simp only [show (k40).sz = 2 from rfl, Nat.mul_one, Nat.add_zero] at hx27_0)
                have hf27_0 := hfr27 0
                (try simp only [show (k40).sz = 2 from rfl, Nat.mul_one, Nat.add_zero] at hf27_0)
                clear hcl27 hcc27 hfr27 hM27
                go_wp2_with (first | ((with_reducible refine gate_store (t := 9) (p := 37) rfl ?_); refine store_event (t := 9) (p := 37) (v := ?vo_w28) (w1 := (w20.setCell ⟨go26, (t315 : Int).toNat * 2, none⟩ (.string a3))) ?hg ?ho ?hn ?hr ?_; (case ho => rfl); (case hg => rfl); (case hn => rfl); (case hr => first | (go_simp; done) | (go_simp; rfl)); intro w28 hw; have hg : w20.grownBy w28 (some go26) := (by rw [hw]; exact HP27.2); have hp_ : Kd.R k40 40 w28 w.heap.size (fun k_ => some k_ ≠ (.slice Ao21 t309.length co21 : Value).ownBlock) (.slice (some ⟨go26, 0, none⟩) y312.length co22) y317 := (by rw [hw, Ny317.out]; exact HP27.1); clear HP27; have n0_ := Aside0.mk (Kd.R_after (v := (.slice (some ⟨go26, 0, none⟩) y312.length co22)) (v1 := (.slice (some ⟨go26, 0, none⟩) y312.length co22)) (ok := (fun _ => True)) (by (with_reducible repeat (first | apply Kd.R_alloc | apply Kd.R_drewN | apply Kd.R_drew)); exact HO311.out) hg (.inl rfl)); have n1_ := Aside0.mk (hp_); have n2_ := Aside0.mk ((by rw [hw]; exact below_set (HB.out) GB26.out : Below w.heap.size w w28)); clear HO311; clear HO314; clear HB; have HO311 := n0_; have HO314 := n1_; have HB := n2_; clear n0_ n1_ n2_; clear hg hw hp_))
                go_meet
                case rel => exact ⟨_, (y317), H', ⟨by first | omega | exact Nat.le_refl _⟩, ⟨by (with_reducible repeat (first | apply Kd.R_alloc | apply Kd.R_drewN | apply Kd.R_drew)); exact Kd.R_mono HO314.out (fun _ hk => trivial)⟩, ⟨by repeat (first | (with_reducible first | exact HB.out | apply below_alloc | apply pw_below_drewN | apply below_drew1) | exact HB.out)⟩⟩
              · rw [if_neg c25] at H
                exact absurd H (by simp)
            · rw [if_neg c24] at H
              exact absurd H (by simp)
          · rw [if_neg c23] at H
            have c23b0 : (t316 == 0) = false := beq_eq_false_iff_ne.mpr c23
            have c23b1 : (t316 != 0) = true := bne_iff_ne.mpr c23
            (first | rw [c23b0] | (simp only [i64_w, i32_w]; rw [c23b0]) | skip)
            have H' := Aside0.mk H
            clear H
            go_wp2
            go_meet
            case rel => exact ⟨_, (y312), H', ⟨by first | omega | exact Nat.le_refl _⟩, ⟨by (with_reducible repeat (first | apply Kd.R_alloc | apply Kd.R_drewN | apply Kd.R_drew)); exact Kd.R_mono HO314.out (fun _ hk => trivial)⟩, ⟨by repeat (first | (with_reducible first | exact HB.out | apply below_alloc | apply pw_below_drewN | apply below_drew1) | exact HB.out)⟩⟩
        case rest =>
          clear HC15
          try clear c1
          try clear c2
          try clear p2
          try clear q2
          try clear hx2
          try clear c5
          try clear c8
          try clear c9
          try clear c9b0
          try clear c9b1
          try clear c12
          try clear c13
          try clear c14
          try clear c18
          try clear c23
          try clear c23b0
          try clear c23b1
          try clear c24
          try clear c24b0
          try clear c25
          try clear c25b0
          try clear c26
          try clear p26
          try clear q26
          try clear hx26
          try clear hf26
          try clear c27
          try clear hx27
          try clear hf27
          try clear hx26_0
          try clear hx26_1
          try clear hx27_0
          try clear p26
          try clear q26
          obtain ⟨kq, x13_14, HA, HJ14, HO_13, HB⟩ := hcut
          have hl13_14 := (Kd.R_reads' HO_13.out).1
          rw [hl13_14] at HO_13
          (try simp only [hl13_14])
          cases kq with
          | zero => exact absurd HA.out (by simp [canopylaw1_WordChecks.j0])
          | succ kj14 =>
            have H := HA.out
            clear HA
            simp only [canopylaw1_WordChecks.j0] at H
            replace H := Option.bind_eq_some_iff.mp H
            obtain ⟨t318, A290, H⟩ := H
            replace H : (if t318 = 1 then ((some (([(-1), 0, 1, 2, 3, 4, a4] : List Int) : List Int)).bind fun y319 => ((canopylaw1_within.f a4 7).bind fun t322 => (if 0 ≤ t322 then (if t322 < (y319.length : Int) then (if 0 ≤ t315 then (if t315 < (x13_14.length : Int) then (canopylaw1_WordChecks.j1 kj14 a5 (x13_14.set (t315 : Int).toNat (⟨(rd_T40 x13_14 t315).f0, rd y319 t322⟩ : S40)) t315) else (none)) else (none)) else (none)) else (none)))) else (canopylaw1_WordChecks.j1 kj14 a5 x13_14 t315)) = some r := H
            have A29 := Aside0.mk A290
            clear A290
            have HC30 := Aside0.mk H
            clear H
            go_upto_if 40 with (first | ((with_reducible refine gate_callee (f := 18) rfl ?_); refine goesL_ (some 39) rfl rfl Try.func18 (by kernel_rfl) rfl #[.int .i64 a5, .int .i64 3] rfl (by (try simp only [List.map_toArray, List.map_cons, List.map_nil]); first | done | rfl | (simp only [List.length_drop, List.length_take]; rfl)) ?_; (with_reducible refine (canopylaw1_within.calls a5 3 t318 _ A29.out).mono ?_); rintro e w' ⟨rfl, rfl⟩; refine ⟨_, rfl, ?_⟩))
            (try simp only [Act.put, List.setIfInBounds_toArray, List.set_cons_zero, List.set_cons_succ])
            go_cut [] (fun wc => ∃ (kq : Nat) (x13_29 : List (S40)), Aside0 (canopylaw1_WordChecks.j1 kq a5 x13_29 t315 = some r) ∧ Aside0 (kq ≤ kj14) ∧ Aside0 (Kd.R k40 40 wc w.heap.size (fun _ => True) (.slice Ao22 x13_14.length co22) x13_29) ∧ Aside0 (Below w.heap.size w wc))
            case first =>
              have H := HC30.out
              clear HC30
              by_cases c31 : t318 = 1
              · rw [if_pos c31] at H
                have c31b0 : (t318 == 1) = true := beq_iff_eq.mpr c31
                have c31b1 : (t318 != 1) = false := bne_eq_false_iff_eq.mpr c31
                clear c31
                (first | rw [c31b0] | (simp only [i64_w, i32_w]; rw [c31b0]) | skip)
                obtain ⟨y319, hy319⟩ : ∃ y_ : List Int, y_ = (([(-1), 0, 1, 2, 3, 4, a4] : List Int)) := ⟨_, rfl⟩
                replace H : ((canopylaw1_within.f a4 7).bind fun t322 => (if 0 ≤ t322 then (if t322 < (y319.length : Int) then (if 0 ≤ t315 then (if t315 < (x13_14.length : Int) then (canopylaw1_WordChecks.j1 kj14 a5 (x13_14.set (t315 : Int).toNat (⟨(rd_T40 x13_14 t315).f0, rd y319 t322⟩ : S40)) t315) else (none)) else (none)) else (none)) else (none))) = some r := by first | (rw [hy319]; with_reducible exact H) | (have H2_ := (Option.bind_some _ _).symm.trans H; rw [hy319]; with_reducible exact H2_) | (have H2_ := (Option.bind_some _ _).symm.trans H; with_reducible exact H2_) | with_reducible exact H | (rw [hy319]; exact H) | exact H
                have Ny319 := Aside0.mk hy319
                clear hy319
                replace H := Option.bind_eq_some_iff.mp H
                obtain ⟨t322, A320, H⟩ := H
                replace H : (if 0 ≤ t322 then (if t322 < (y319.length : Int) then (if 0 ≤ t315 then (if t315 < (x13_14.length : Int) then (canopylaw1_WordChecks.j1 kj14 a5 (x13_14.set (t315 : Int).toNat (⟨(rd_T40 x13_14 t315).f0, rd y319 t322⟩ : S40)) t315) else (none)) else (none)) else (none)) else (none)) = some r := H
                have A32 := Aside0.mk A320
                clear A320
                by_cases c33 : 0 ≤ t322
                · rw [if_pos c33] at H
                  have c33b0 : decide (0 ≤ t322) = true := decide_eq_true c33
                  clear c33
                  by_cases c34 : t322 < (y319.length : Int)
                  · rw [if_pos c34] at H
                    have c34b0 : decide (t322 < (y319.length : Int)) = true := decide_eq_true c34
                    clear c34
                    by_cases c35 : 0 ≤ t315
                    · rw [if_pos c35] at H
                      have c35b0 : decide (0 ≤ t315) = true := decide_eq_true c35
                      clear c35
                      by_cases c36 : t315 < (x13_14.length : Int)
                      · rw [if_pos c36] at H
                        have c36b0 : decide (t315 < (x13_14.length : Int)) = true := decide_eq_true c36
                        clear c36
                        obtain ⟨y324, hy324⟩ : ∃ y_ : List (S40), y_ = (x13_14.set (t315 : Int).toNat (⟨(rd_T40 x13_14 t315).f0, rd y319 t322⟩ : S40)) := ⟨_, rfl⟩
                        replace H : (canopylaw1_WordChecks.j1 kj14 a5 y324 t315) = some r := by first | (rw [hy324]; with_reducible exact H) | (have H2_ := (Option.bind_some _ _).symm.trans H; rw [hy324]; with_reducible exact H2_) | (have H2_ := (Option.bind_some _ _).symm.trans H; with_reducible exact H2_) | with_reducible exact H | (rw [hy324]; exact H) | exact H
                        have Ny324 := Aside0.mk hy324
                        clear hy324
                        have H' := Aside0.mk H
                        clear H
                        go_wp2_with (first | ((with_reducible refine gate_dst (N := 44) rfl ?_); refine Kd.R_lit (Kd.int .i64) _ 3 ?hg (N := 44) ?hd (xs := ([(-1), 0, 1, 2, 3, 4, a4] : List Int)) (inner := [.int .i64 (-1), .int .i64 0, .int .i64 1, .int .i64 2, .int .i64 3, .int .i64 4, .int .i64 a4]) (ok := fun _ => True) (okp := fun _ => True) ?hr ?hp (fun _ hk => hk) trivial (Below.refl _ _) (Nat.le_refl _) (by simp) ?_; (case hd => rfl); (case hg => rfl); (case hr => first | (go_simp; done) | (go_simp; rfl)); (case hp => exact (Reps.one (show Kd.M (Kd.int .i64) _ _ _ (-1) [.int .i64 (-1)] from rfl) (Reps.one (show Kd.M (Kd.int .i64) _ _ _ 0 [.int .i64 0] from rfl) (Reps.one (show Kd.M (Kd.int .i64) _ _ _ 1 [.int .i64 1] from rfl) (Reps.one (show Kd.M (Kd.int .i64) _ _ _ 2 [.int .i64 2] from rfl) (Reps.one (show Kd.M (Kd.int .i64) _ _ _ 3 [.int .i64 3] from rfl) (Reps.one (show Kd.M (Kd.int .i64) _ _ _ 4 [.int .i64 4] from rfl) (Reps.one (show Kd.M (Kd.int .i64) _ _ _ a4 [.int .i64 a4] from rfl) (Reps.none _ _))))))))); intro v320 w38 ho39 hb hg_ hnew_; clear hg_ hnew_; (first | rw [← Ny319.out] at ho39 | (simp only [Int.reduceToNat] at ho39; rw [← Ny319.out] at ho39)); have n0_ := Aside0.mk (Kd.R_below (by (with_reducible repeat (first | apply Kd.R_alloc | apply Kd.R_drewN | apply Kd.R_drew)); exact HO_13.out) hb); have n1_ := Aside0.mk (Kd.R_lower ho39 (below_size (by repeat (first | (with_reducible first | exact HB.out | apply below_alloc | apply pw_below_drewN | apply below_drew1) | exact HB.out)))); have n2_ := Aside0.mk (below_step (by repeat (first | (with_reducible first | exact HB.out | apply below_alloc | apply pw_below_drewN | apply below_drew1) | exact HB.out)) hb); clear HO_13; clear HB; have HO_13 := n0_; have HO321 := n1_; have HB := n2_; clear n0_ n1_ n2_; clear hb ho39) | ((with_reducible refine gate_callee (f := 18) rfl ?_); refine goesL_ (some 46) rfl rfl Try.func18 (by kernel_rfl) rfl #[.int .i64 a4, .int .i64 7] rfl (by (try simp only [List.map_toArray, List.map_cons, List.map_nil]); first | done | rfl | (simp only [List.length_drop, List.length_take]; rfl)) ?_; (with_reducible refine (canopylaw1_within.calls a4 7 t322 _ A32.out).mono ?_); rintro e w' ⟨rfl, rfl⟩; refine ⟨_, rfl, ?_⟩; (try (rw [drewN_self w38]; generalize hq_ : World.drewN w38 _ = w38; have n0_ : Aside0 (Kd.R (Kd.int .i64) 3 w38 w.heap.size (fun _ => True) v320 y319) := ⟨by rw [← hq_]; exact (by (with_reducible repeat (first | apply Kd.R_alloc | apply Kd.R_drewN | apply Kd.R_drew)); exact HO321.out)⟩; have n1_ : Aside0 (Kd.R k40 40 w38 w.heap.size (fun _ => True) (.slice Ao22 x13_14.length co22) x13_14) := ⟨by rw [← hq_]; exact (by (with_reducible repeat (first | apply Kd.R_alloc | apply Kd.R_drewN | apply Kd.R_drew)); exact HO_13.out)⟩; have n2_ : Aside0 (Below w.heap.size w w38) := ⟨by rw [← hq_]; exact (by repeat (first | (with_reducible first | exact HB.out | apply below_alloc | apply pw_below_drewN | apply below_drew1) | exact HB.out))⟩; clear HO321 HO_13 HB hq_; have HO321 := n0_; have HO_13 := n1_; have HB := n2_; clear n0_ n1_ n2_)); obtain ⟨Ao40, co40, eo40⟩ := Kd.R_slice HO321.out; subst eo40; have p323 : 0 ≤ (t322 : Int) := of_decide_eq_true (by first | (with_reducible assumption) | assumption); have q323 : t322 < (y319.length : Int) := of_decide_eq_true (by first | (with_reducible assumption) | assumption); obtain ⟨ad323, e323, hx323_0⟩ := Kd.at_int (Kd.R_reads' HO321.out).2.2 t322 p323 q323; cases e323; replace p323 := eq_true p323; replace q323 := eq_true q323; have p37 : 0 ≤ (t315 : Int) := of_decide_eq_true (by first | (with_reducible assumption) | assumption); have q37 : (t315 : Int) < ((x13_14.length : Int) : Int) := of_decide_eq_true (by first | (with_reducible assumption) | assumption); obtain ⟨go37, co37, eo37, gb37, gl37, cl37, HG37⟩ := Kd.R_form HO_13.out (by omega); (first | cases eo37 | (injection eo37 with ea_ en_ ec_; (first | subst ea_ | (injection ea_ with ea_; subst ea_)); subst ec_; clear en_)); have GB37 := Aside0.mk gb37; have GG37 := Aside0.mk HG37; clear gb37 gl37 HG37; obtain ⟨ce37, hcl37, hM37, hcc37, hfr37⟩ := Kd.R_elem HO_13.out z40 (t315 : Int) p37 q37; obtain rfl := k40_openM hM37; have hx37_0 : w38.cell? ⟨go37, (t315 : Int).toNat * 2, none⟩ = some (.string ((rd_T40 x13_14 t315).f0)) := hcc37 0 _ rfl; have hx37_1 : w38.cell? ⟨go37, (t315 : Int).toNat * 2 + 1, none⟩ = some (.int .i64 ((rd_T40 x13_14 t315).f1)) := hcc37 1 _ rfl; have hf37_0 : w38.frozen? ⟨go37, (t315 : Int).toNat * 2, none⟩ = false := hfr37 0; have hf37_1 : w38.frozen? ⟨go37, (t315 : Int).toNat * 2 + 1, none⟩ = false := hfr37 1; clear hcl37 hcc37 hfr37 hM37; replace p37 := eq_true p37; replace q37 := eq_true q37; have HX41 := Aside0.mk (show Kd.R k40 40 w38 w.heap.size (fun _ => True) (.slice (some ⟨go37, 0, none⟩) x13_14.length co22) x13_14 from (by (with_reducible repeat (first | apply Kd.R_alloc | apply Kd.R_drewN | apply Kd.R_drew)); exact HO_13.out)); obtain ⟨ce41, hcl41, hM41, hcc41, hfr41⟩ := Kd.R_elem HX41.out z40 (t315 : Int) (of_decide_eq_true (by first | (with_reducible assumption) | assumption)) (by have h_ : (t315 : Int) < ((x13_14.length : Int) : Int) := of_decide_eq_true (by first | (with_reducible assumption) | assumption); first | exact h_ | (have e_ := (Kd.R_reads' HO_13.out).1; omega) | simpa using h_); obtain rfl := k40_openM hM41; have HP41 := Kd.R_seg HX41.out (t315 : Int) (of_decide_eq_true (by first | (with_reducible assumption) | assumption)) (by have h_ : (t315 : Int) < ((x13_14.length : Int) : Int) := of_decide_eq_true (by first | (with_reducible assumption) | assumption); first | exact h_ | (have e_ := (Kd.R_reads' HO_13.out).1; omega) | simpa using h_) (seg := [.int .i64 (rd y319 t322)]) (j := 1) hcl41 hcc41 (show 2 ≤ 2 from by decide) (x' := (⟨(rd_T40 x13_14 t315).f0, rd y319 t322⟩ : S40)) (k40_mkM _ _ _ (⟨(rd_T40 x13_14 t315).f0, rd y319 t322⟩ : S40) ) (fun _ hk => hk); have hx41_1 := hcc41 1 _ rfl; (try simp only [show (k40).sz = 2 from rfl, Nat.mul_one, Nat.add_zero] at hx41_1); have hf41_1 := hfr41 1; (try simp only [show (k40).sz = 2 from rfl, Nat.mul_one, Nat.add_zero] at hf41_1); clear hcl41 hcc41 hfr41 hM41) | ((with_reducible refine gate_store (t := 3) (p := 50) rfl ?_); refine store_event (t := 3) (p := 50) (v := ?vo_w42) (w1 := (w38.setCell ⟨go37, (t315 : Int).toNat * 2 + 1, none⟩ (.int .i64 (rd y319 t322)))) ?hg ?ho ?hn ?hr ?_; (case ho => rfl); (case hg => rfl); (case hn => rfl); (case hr => first | (go_simp; done) | (go_simp; rfl)); intro w42 hw; have hg : w38.grownBy w42 (some go37) := (by rw [hw]; exact HP41.2); have hp_ : Kd.R k40 40 w42 w.heap.size (fun _ => True) (.slice (some ⟨go37, 0, none⟩) x13_14.length co22) y324 := (by rw [hw, Ny324.out]; exact HP41.1); clear HP41; have n0_ := Aside0.mk (hp_); have n1_ := Aside0.mk (Kd.R_over' (v := (.slice (some ⟨go37, 0, none⟩) x13_14.length co22)) (by (with_reducible repeat (first | apply Kd.R_alloc | apply Kd.R_drewN | apply Kd.R_drew)); exact HO321.out) (Kd.R_typed HO_13.out) (by decide) hg); have n2_ := Aside0.mk ((by rw [hw]; exact below_set (HB.out) GB37.out : Below w.heap.size w w42)); clear HO_13; clear HO321; clear HB; have HO_13 := n0_; have HO321 := n1_; have HB := n2_; clear n0_ n1_ n2_; clear hg hw hp_))
                        go_meet
                        case rel => exact ⟨_, (y324), H', ⟨by have := HJ14.out; first | omega | exact Nat.le_refl _⟩, ⟨by (try simp only [hl13_14]); (with_reducible repeat (first | apply Kd.R_alloc | apply Kd.R_drewN | apply Kd.R_drew)); exact HO_13.out⟩, ⟨by repeat (first | (with_reducible first | exact HB.out | apply below_alloc | apply pw_below_drewN | apply below_drew1) | exact HB.out)⟩⟩
                      · rw [if_neg c36] at H
                        exact absurd H (by simp)
                    · rw [if_neg c35] at H
                      exact absurd H (by simp)
                  · rw [if_neg c34] at H
                    exact absurd H (by simp)
                · rw [if_neg c33] at H
                  exact absurd H (by simp)
              · rw [if_neg c31] at H
                have c31b0 : (t318 == 1) = false := beq_eq_false_iff_ne.mpr c31
                have c31b1 : (t318 != 1) = true := bne_iff_ne.mpr c31
                (first | rw [c31b0] | (simp only [i64_w, i32_w]; rw [c31b0]) | skip)
                have H' := Aside0.mk H
                clear H
                go_wp2
                go_meet
                case rel => exact ⟨_, (x13_14), H', ⟨by have := HJ14.out; first | omega | exact Nat.le_refl _⟩, ⟨by (try simp only [hl13_14]); (with_reducible repeat (first | apply Kd.R_alloc | apply Kd.R_drewN | apply Kd.R_drew)); exact HO_13.out⟩, ⟨by repeat (first | (with_reducible first | exact HB.out | apply below_alloc | apply pw_below_drewN | apply below_drew1) | exact HB.out)⟩⟩
            case rest =>
              clear HC30
              try clear c1
              try clear c2
              try clear p2
              try clear q2
              try clear hx2
              try clear c3
              try clear p3
              try clear q3
              try clear hx3
              try clear c4
              try clear hx4
              try clear c5
              try clear c8
              try clear c9
              try clear c9b0
              try clear c9b1
              try clear c12
              try clear c13
              try clear c14
              try clear c18
              try clear c23
              try clear c23b0
              try clear c23b1
              try clear c24
              try clear c24b0
              try clear c25
              try clear c25b0
              try clear c26
              try clear p26
              try clear q26
              try clear hx26
              try clear hf26
              try clear c27
              try clear hx27
              try clear hf27
              try clear c31
              try clear c31b0
              try clear c31b1
              try clear p32
              try clear q32
              try clear hx32
              try clear c33
              try clear c33b0
              try clear c34
              try clear c34b0
              try clear c35
              try clear c35b0
              try clear c36
              try clear c36b0
              try clear c37
              try clear p37
              try clear q37
              try clear hx37
              try clear hf37
              try clear c41
              try clear hx41
              try clear hf41
              try clear hx26_0
              try clear hx26_1
              try clear hx27_0
              try clear hx323_0
              try clear hx37_0
              try clear hx37_1
              try clear hx41_1
              try clear p2
              try clear p26
              try clear p323
              try clear p37
              try clear q2
              try clear q26
              try clear q323
              try clear q37
              obtain ⟨kq, x13_29, HA, HJ29, HO_13, HB⟩ := hcut
              have hl13_29 := (Kd.R_reads' HO_13.out).1
              rw [hl13_29] at HO_13
              (try simp only [hl13_29])
              cases kq with
              | zero => exact absurd HA.out (by simp [canopylaw1_WordChecks.j1])
              | succ kj29 =>
                have H := HA.out
                clear HA
                simp only [canopylaw1_WordChecks.j1] at H
                have H' := Aside0.mk H
                clear H
                go_wp2
                go_loopg [13, 15] kj29 (fun kq v13 v15 w' => ∃ (x13_3 : List (S40)) (x15_3 : Int), v15 = .int .i64 x15_3 ∧ Aside0 (canopylaw1_WordChecks.l0 kq a5 x13_3 t315 x15_3 = some r) ∧ Aside0 (kq ≤ kj29) ∧ Aside0 (Kd.R k40 40 w' w.heap.size (fun _ => True) v13 x13_3) ∧ Aside0 (Below w.heap.size w w'))
                case atStart => exact ⟨(x13_29), (0), (by first | rfl | (simp; done) | (simp [*]; done)), H', ⟨Nat.le_refl _⟩, ⟨by (try simp only [hl13_14]); (try simp only [hl13_29]); (with_reducible repeat (first | apply Kd.R_alloc | apply Kd.R_drewN | apply Kd.R_drew)); exact HO_13.out⟩, ⟨by repeat (first | (with_reducible first | exact HB.out | apply below_alloc | apply pw_below_drewN | apply below_drew1) | exact HB.out)⟩⟩
                case round =>
                  clear H'
                  try clear c1
                  try clear c2
                  try clear p2
                  try clear q2
                  try clear hx2
                  try clear c3
                  try clear p3
                  try clear q3
                  try clear hx3
                  try clear c4
                  try clear hx4
                  try clear c5
                  try clear c8
                  try clear c9
                  try clear c9b0
                  try clear c9b1
                  try clear c12
                  try clear c13
                  try clear c14
                  try clear c18
                  try clear c23
                  try clear c23b0
                  try clear c23b1
                  try clear c24
                  try clear c24b0
                  try clear c25
                  try clear c25b0
                  try clear c26
                  try clear p26
                  try clear q26
                  try clear hx26
                  try clear hf26
                  try clear c27
                  try clear hx27
                  try clear hf27
                  try clear c31
                  try clear c31b0
                  try clear c31b1
                  try clear p32
                  try clear q32
                  try clear hx32
                  try clear c33
                  try clear c33b0
                  try clear c34
                  try clear c34b0
                  try clear c35
                  try clear c35b0
                  try clear c36
                  try clear c36b0
                  try clear c37
                  try clear p37
                  try clear q37
                  try clear hx37
                  try clear hf37
                  try clear c41
                  try clear hx41
                  try clear hf41
                  try clear hx26_0
                  try clear hx26_1
                  try clear hx27_0
                  try clear hx323_0
                  try clear hx37_0
                  try clear hx37_1
                  try clear hx41_1
                  try clear p2
                  try clear p26
                  try clear p3
                  try clear p32
                  try clear p323
                  try clear p37
                  try clear q2
                  try clear q26
                  try clear q3
                  try clear q32
                  try clear q323
                  try clear q37
                  obtain ⟨x13_3, x15_3, rfl, HA, HK3, HO_13, HB⟩ := hrel
                  cases gk with
                  | zero => exact absurd HA.out (by simp [canopylaw1_WordChecks.l0])
                  | succ k3 =>
                    have H := HA.out
                    clear HA
                    simp only [canopylaw1_WordChecks.l0] at H
                    replace H := Option.bind_eq_some_iff.mp H
                    obtain ⟨t325, A430, H⟩ := H
                    replace H : (if x15_3 < t325 then ((some (([(wrap64 (97 + x15_3)) % 256] : List Int) : List Int)).bind fun y326 => (if 1 + (strOfNums y326).size ≤ 9223372036854775807 then (if x13_3.length < 5864062014805 then (canopylaw1_WordChecks.l0 k3 a5 (x13_3 ++ [(⟨(⟨#[110]⟩ : ByteArray) ++ (strOfNums y326), wrap64 (1 + (Int.tmod x15_3 3))⟩ : S40)]) t315 (wrap64 (x15_3 + 1))) else (none)) else (none))) else ((word_Check.f k3 x13_3).bind fun t332 => ((canopyref1_Check.f k3 x13_3).bind fun t333 => (if t332 = t333 then (if 0 ≤ t315 then (if t315 ≤ (x13_3.length : Int) then ((word_Check.f k3 (x13_3.take (t315 : Int).toNat)).bind fun t338 => ((canopyref1_Check.f k3 (x13_3.take (t315 : Int).toNat)).bind fun t343 => (some (t338 == t343)))) else (none)) else (none)) else (some false))))) = some r := H
                    have A43 := Aside0.mk A430
                    clear A430
                    by_cases c44 : x15_3 < t325
                    · rw [if_pos c44] at H
                      have c44b0 : decide (x15_3 < t325) = true := decide_eq_true c44
                      clear c44
                      obtain ⟨y326, hy326⟩ : ∃ y_ : List Int, y_ = (([(wrap64 (97 + x15_3)) % 256] : List Int)) := ⟨_, rfl⟩
                      replace H : (if 1 + (strOfNums y326).size ≤ 9223372036854775807 then (if x13_3.length < 5864062014805 then (canopylaw1_WordChecks.l0 k3 a5 (x13_3 ++ [(⟨(⟨#[110]⟩ : ByteArray) ++ (strOfNums y326), wrap64 (1 + (Int.tmod x15_3 3))⟩ : S40)]) t315 (wrap64 (x15_3 + 1))) else (none)) else (none)) = some r := by first | (rw [hy326]; with_reducible exact H) | (have H2_ := (Option.bind_some _ _).symm.trans H; rw [hy326]; with_reducible exact H2_) | (have H2_ := (Option.bind_some _ _).symm.trans H; with_reducible exact H2_) | with_reducible exact H | (rw [hy326]; exact H) | exact H
                      have Ny326 := Aside0.mk hy326
                      clear hy326
                      by_cases c45 : 1 + (strOfNums y326).size ≤ 9223372036854775807
                      · rw [if_pos c45] at H
                        have c45b0 := eq_true c45
                        have c45b1 : decide (1 + (strOfNums y326).size ≤ 9223372036854775807) = true := decide_eq_true c45
                        try have c45b2 : (9223372036854775807 < 1 + (strOfNums y326).size) = False := eq_false (Nat.not_lt.2 c45)
                        by_cases c46 : x13_3.length < 5864062014805
                        · rw [if_pos c46] at H
                          have LMc46 := Aside0.mk c46
                          clear c46
                          obtain ⟨y329, hy329⟩ : ∃ y_ : List (S40), y_ = (x13_3 ++ [(⟨(⟨#[110]⟩ : ByteArray) ++ (strOfNums y326), wrap64 (1 + (Int.tmod x15_3 3))⟩ : S40)]) := ⟨_, rfl⟩
                          replace H : (canopylaw1_WordChecks.l0 k3 a5 y329 t315 (wrap64 (x15_3 + 1))) = some r := by first | (rw [hy329]; with_reducible exact H) | (have H2_ := (Option.bind_some _ _).symm.trans H; rw [hy329]; with_reducible exact H2_) | (have H2_ := (Option.bind_some _ _).symm.trans H; with_reducible exact H2_) | with_reducible exact H | (rw [hy329]; exact H) | exact H
                          have Ny329 := Aside0.mk hy329
                          clear hy329
                          have H' := Aside0.mk H
                          clear H
                          go_wp2_with (first | ((with_reducible refine gate_callee (f := 18) rfl ?_); refine goesL_ (some 53) rfl rfl Try.func18 (by kernel_rfl) rfl #[.int .i64 a5, .int .i64 20] rfl (by (try simp only [List.map_toArray, List.map_cons, List.map_nil]); first | done | rfl | (simp only [List.length_drop, List.length_take]; rfl)) ?_; (with_reducible refine (canopylaw1_within.calls a5 20 t325 _ A43.out).mono ?_); rintro e w' ⟨rfl, rfl⟩; refine ⟨_, rfl, ?_⟩) | ((with_reducible refine gate_dst (N := 61) rfl ?_); refine Kd.R_lit (Kd.int .u8) _ 5 ?hg (N := 61) ?hd (xs := ([(wrap64 (97 + x15_3)) % 256] : List Int)) (inner := [.int .u8 ((wrap64 (97 + x15_3)) % 256)]) (ok := fun _ => True) (okp := fun _ => True) ?hr ?hp (fun _ hk => hk) trivial (Below.refl _ _) (Nat.le_refl _) (by simp) ?_; (case hd => rfl); (case hg => rfl); (case hr => first | (go_simp; done) | (go_simp; rfl)); (case hp => exact (Reps.one (show Kd.M (Kd.int .u8) _ _ _ ((wrap64 (97 + x15_3)) % 256) [.int .u8 ((wrap64 (97 + x15_3)) % 256)] from rfl) (Reps.none _ _))); intro v327 w47 ho48 hb hg_ hnew_; clear hg_ hnew_; (first | rw [← Ny326.out] at ho48 | (simp only [Int.reduceToNat] at ho48; rw [← Ny326.out] at ho48)); have n0_ := Aside0.mk (Kd.R_below (by (with_reducible repeat (first | apply Kd.R_alloc | apply Kd.R_drewN | apply Kd.R_drew)); exact HO_13.out) hb); have n1_ := Aside0.mk (Kd.R_lower ho48 (below_size (by repeat (first | (with_reducible first | exact HB.out | apply below_alloc | apply pw_below_drewN | apply below_drew1) | exact HB.out)))); have n2_ := Aside0.mk (below_step (by repeat (first | (with_reducible first | exact HB.out | apply below_alloc | apply pw_below_drewN | apply below_drew1) | exact HB.out)) hb); clear HO_13; clear HB; have HO_13 := n0_; have HO328 := n1_; have HB := n2_; clear n0_ n1_ n2_; clear hb ho48; have hcv49 := own_string (P := Try.prog) Try.underlying41 Try.underlying5 Try.underlying9 (Kd.own_of_R HO328.out)) | ((with_reducible refine gate_builtin (b := .append) (xs := #[.tmp 57, .tmp 68]) rfl ?_); at_builtin; refine Kd.R_append k40 (w0 := w) w.heap.size rfl (.tmp 57) (.tmp 68) 24 40 (.agg #[(.string ⟨#[]⟩), (.int .i64 0)]) 24 rfl Try.underlying24 info40 rfl (by decide) (by omega) u13 x13_3 (⟨(⟨#[110]⟩ : ByteArray) ++ (strOfNums y326), wrap64 (1 + (Int.tmod x15_3 3))⟩ : S40) [.string ((⟨#[110]⟩ : ByteArray) ++ (strOfNums y326)), .int .i64 (wrap64 (1 + (Int.tmod x15_3 3)))] (fun _ => True) (fun _ => False) rfl rfl ?aP (fun _ hk => hk.elim) ?aF ?aO ?aB ?aS ?aL ?_; (case aP => exact k40_mkM _ _ _ (⟨(⟨#[110]⟩ : ByteArray) ++ (strOfNums y326), wrap64 (1 + (Int.tmod x15_3 3))⟩ : S40)); (case aB => exact (by repeat (first | (with_reducible first | exact HB.out | apply below_alloc | apply pw_below_drewN | apply below_drew1) | exact HB.out))); (case aF => exact (fun _ _ => trivial)); (case aO => exact (by (with_reducible repeat (first | apply Kd.R_alloc | apply Kd.R_drewN | apply Kd.R_drew)); exact HO_13.out)); (case aS => exact (below_size (by repeat (first | (with_reducible first | exact HB.out | apply below_alloc | apply pw_below_drewN | apply below_drew1) | exact HB.out)))); (case aL => have := LMc46.out; omega); intro v330 w50 ho hb hg hat; rw [← Ny329.out] at ho; have n0_ := Aside0.mk (Kd.R_over' (by (with_reducible repeat (first | apply Kd.R_alloc | apply Kd.R_drewN | apply Kd.R_drew)); exact HO328.out) (Kd.R_typed (by (with_reducible repeat (first | apply Kd.R_alloc | apply Kd.R_drewN | apply Kd.R_drew)); exact HO_13.out)) (by decide) hg); have n1_ := Aside0.mk (hb); have n2_ := Aside0.mk (ho); clear HO328; clear HB; clear HO_13; have HO328 := n0_; have HB := n1_; have HO331 := n2_; clear n0_ n1_ n2_; clear ho hb hg hat))
                          go_roundg k3
                          case measure => have := HJ14.out; have := HJ29.out; have := HK3.out; omega
                          case rel => exact ⟨(y329), (wrap64 (x15_3 + 1)), (by first | rfl | (simp; done) | (simp [*]; done)), H', ⟨by have := HJ14.out; have := HJ29.out; have := HK3.out; omega⟩, ⟨by (try simp only [hl13_14]); (try simp only [hl13_29]); (with_reducible repeat (first | apply Kd.R_alloc | apply Kd.R_drewN | apply Kd.R_drew)); exact HO331.out⟩, ⟨by repeat (first | (with_reducible first | exact HB.out | apply below_alloc | apply pw_below_drewN | apply below_drew1) | exact HB.out)⟩⟩
                        · rw [if_neg c46] at H
                          exact absurd H (by simp)
                      · rw [if_neg c45] at H
                        exact absurd H (by simp)
                    · rw [if_neg c44] at H
                      have c44b0 : decide (x15_3 < t325) = false := decide_eq_false c44
                      clear c44
                      replace H := Option.bind_eq_some_iff.mp H
                      obtain ⟨t332, A510, H⟩ := H
                      replace H : ((canopyref1_Check.f k3 x13_3).bind fun t333 => (if t332 = t333 then (if 0 ≤ t315 then (if t315 ≤ (x13_3.length : Int) then ((word_Check.f k3 (x13_3.take (t315 : Int).toNat)).bind fun t338 => ((canopyref1_Check.f k3 (x13_3.take (t315 : Int).toNat)).bind fun t343 => (some (t338 == t343)))) else (none)) else (none)) else (some false))) = some r := H
                      have A51 := Aside0.mk A510
                      clear A510
                      replace H := Option.bind_eq_some_iff.mp H
                      obtain ⟨t333, A520, H⟩ := H
                      replace H : (if t332 = t333 then (if 0 ≤ t315 then (if t315 ≤ (x13_3.length : Int) then ((word_Check.f k3 (x13_3.take (t315 : Int).toNat)).bind fun t338 => ((canopyref1_Check.f k3 (x13_3.take (t315 : Int).toNat)).bind fun t343 => (some (t338 == t343)))) else (none)) else (none)) else (some false)) = some r := H
                      have A52 := Aside0.mk A520
                      clear A520
                      by_cases c53 : t332 = t333
                      · rw [if_pos c53] at H
                        have c53b0 : (t332 == t333) = true := beq_iff_eq.mpr c53
                        have c53b1 : (t332 != t333) = false := bne_eq_false_iff_eq.mpr c53
                        clear c53
                        by_cases c54 : 0 ≤ t315
                        · rw [if_pos c54] at H
                          have c54b0 := eq_true c54
                          have c54b1 : decide (0 ≤ t315) = true := decide_eq_true c54
                          clear c54
                          by_cases c55 : t315 ≤ (x13_3.length : Int)
                          · rw [if_pos c55] at H
                            have c55b0 := eq_true c55
                            have c55b1 : decide (t315 ≤ (x13_3.length : Int)) = true := decide_eq_true c55
                            clear c55
                            obtain ⟨y334, hy334⟩ : ∃ y_ : List (S40), y_ = (x13_3.take (t315 : Int).toNat) := ⟨_, rfl⟩
                            replace H : ((word_Check.f k3 y334).bind fun t338 => ((canopyref1_Check.f k3 (x13_3.take (t315 : Int).toNat)).bind fun t343 => (some (t338 == t343)))) = some r := by first | (rw [hy334]; with_reducible exact H) | (have H2_ := (Option.bind_some _ _).symm.trans H; rw [hy334]; with_reducible exact H2_) | (have H2_ := (Option.bind_some _ _).symm.trans H; with_reducible exact H2_) | with_reducible exact H | (rw [hy334]; exact H) | exact H
                            have Ny334 := Aside0.mk hy334
                            clear hy334
                            replace H := Option.bind_eq_some_iff.mp H
                            obtain ⟨t338, A560, H⟩ := H
                            replace H : ((canopyref1_Check.f k3 (x13_3.take (t315 : Int).toNat)).bind fun t343 => (some (t338 == t343))) = some r := H
                            have A56 := Aside0.mk A560
                            clear A560
                            have c57b0 := eq_true (of_decide_eq_true (by first | (with_reducible assumption) | assumption) : 0 ≤ t315)
                            have c58b0 := eq_true (of_decide_eq_true (by first | (with_reducible assumption) | assumption) : t315 ≤ (x13_3.length : Int))
                            obtain ⟨y339, hy339⟩ : ∃ y_ : List (S40), y_ = (x13_3.take (t315 : Int).toNat) := ⟨_, rfl⟩
                            replace H : ((canopyref1_Check.f k3 y339).bind fun t343 => (some (t338 == t343))) = some r := by first | (rw [hy339]; with_reducible exact H) | (have H2_ := (Option.bind_some _ _).symm.trans H; rw [hy339]; with_reducible exact H2_) | (have H2_ := (Option.bind_some _ _).symm.trans H; with_reducible exact H2_) | with_reducible exact H | (rw [hy339]; exact H) | exact H
                            have Ny339 := Aside0.mk hy339
                            clear hy339
                            replace H := Option.bind_eq_some_iff.mp H
                            obtain ⟨t343, A590, H⟩ := H
                            replace H : (some (t338 == t343)) = some r := H
                            have A59 := Aside0.mk A590
                            clear A590
                            obtain rfl := Option.some.inj H
                            try go_wp2_with (first | ((with_reducible refine gate_callee (f := 18) rfl ?_); refine goesL_ (some 53) rfl rfl Try.func18 (by kernel_rfl) rfl #[.int .i64 a5, .int .i64 20] rfl (by (try simp only [List.map_toArray, List.map_cons, List.map_nil]); first | done | rfl | (simp only [List.length_drop, List.length_take]; rfl)) ?_; (with_reducible refine (canopylaw1_within.calls a5 20 t325 _ A43.out).mono ?_); rintro e w' ⟨rfl, rfl⟩; refine ⟨_, rfl, ?_⟩))
                            (try (rw [drewN_self wr]; generalize hq_ : World.drewN wr _ = wr; have n0_ : Aside0 (Kd.R k40 40 wr w.heap.size (fun _ => True) u13 x13_3) := ⟨by rw [← hq_]; exact (by (with_reducible repeat (first | apply Kd.R_alloc | apply Kd.R_drewN | apply Kd.R_drew)); exact HO_13.out)⟩; have n1_ : Aside0 (Below w.heap.size w wr) := ⟨by rw [← hq_]; exact (by repeat (first | (with_reducible first | exact HB.out | apply below_alloc | apply pw_below_drewN | apply below_drew1) | exact HB.out))⟩; clear HO_13 HB hq_; have HO_13 := n0_; have HB := n1_; clear n0_ n1_))
                            have n0_ := Aside0.mk (Kd.R_drew HO_13.out)
                            have n1_ := Aside0.mk (below_drew1 HB.out)
                            clear HO_13
                            clear HB
                            have HO_13 := n0_
                            have HB := n1_
                            clear n0_ n1_
                            obtain ⟨Ao61, co61, eo61⟩ := Kd.R_slice HO_13.out
                            (first | subst eo61 | (injection eo61 with f1_ f2_ f3_; have f4_ := f1_.symm; have f5_ := f3_.symm; clear f1_ f2_ f3_; subst f4_; subst f5_))
                            refine start_ (n := 17) (S := fun w' => True) (ds := []) #[false, false, false, false, false, false, false, false, false, false, false, false, false, false, false, false, false] (by kernel_rfl) rfl rfl trivial (fun hHeld => ?_); refine with_tabW canopylaw1_WordChecks.tab15 canopylaw1_WordChecks.bits15 (fun HT_ HW_ => ?_)
                            generalize wr.drew = w60 at HO_13 HB hHeld ⊢
                            refine pure_ (i := 0) (N := some 70) (v := ?_) (a' := ?_) #[true, false, false, false, false, false, false, false, false, false, false, false, false, false, false, false, false] rfl rfl (any_of HT_.out (by kernel_rfl)) (fun _ _ _ h => h) (Or.inl ⟨by rfl, ?_⟩) ?_ ?_
                            rotate_left
                            · intro w'
                              go_simp
                              with_reducible rfl
                            rotate_left
                            · simp only [Act.put, List.setIfInBounds_toArray, List.set_cons_zero, List.set_cons_succ, i64_w, i32_w]
                              rfl
                            refine pure_ (i := 2) (N := some 72) (v := ?_) (a' := ?_) #[true, false, true, false, false, false, false, false, false, false, false, false, false, false, false, false, false] rfl rfl (any_of HT_.out (by kernel_rfl)) (fun _ _ _ h => h) (Or.inl ⟨by rfl, ?_⟩) ?_ ?_
                            rotate_left
                            · intro w'
                              go_simp
                              with_reducible rfl
                            rotate_left
                            · simp only [Act.put, List.setIfInBounds_toArray, List.set_cons_zero, List.set_cons_succ, i64_w, i32_w]
                              rfl
                            refine one_ (i := 1) (N := some 71) #[true, true, true, false, false, false, false, false, false, false, false, false, false, false, false, false, false] rfl rfl (one_of HT_.out (by kernel_rfl)) (by decide) (fun K hK => ?_)
                            refine goes_ Try.func23 (by kernel_rfl) rfl #[.slice Ao61 x13_3.length co61] (by rfl) rfl rfl (by (try simp only [List.map_toArray, List.map_cons, List.map_nil]); first | done | rfl | (simp only [List.length_drop, List.length_take]; rfl)) ?_
                            with_reducible refine (word_Check.calls k3 _ _ x13_3 t332 _ ?side1 ?side2 A51.out).mono ?_
                            (case side1 => repeat (first | exact (Kd.R_reads' HO_13.out).2.2 | (with_reducible refine Kd.C_alloc ?_ _) | (with_reducible refine Kd.C_drewN ?_ _) | (with_reducible refine Kd.C_drew ?_)))
                            (case side2 => exact (Kd.R_reads' HO_13.out).2.1)
                            rintro e w62 ⟨rfl, hb⟩
                            refine ⟨_, rfl, ?_⟩
                            have n0_ := Aside0.mk (Kd.R_below (by (with_reducible repeat (first | apply Kd.R_alloc | apply Kd.R_drewN | apply Kd.R_drew)); exact HO_13.out) hb)
                            have n1_ := Aside0.mk (below_step (by repeat (first | (with_reducible first | exact HB.out | apply below_alloc | apply pw_below_drewN | apply below_drew1) | exact HB.out)) hb)
                            clear HO_13
                            clear HB
                            have HO_13 := n0_
                            have HB := n1_
                            clear n0_ n1_
                            (try clear hb)
                            (try clear hb2)
                            (try clear hk)
                            (try clear hi)
                            refine hK.out _ _ trivial (fun hHeld => ?_)
                            clear hK K
                            refine norm_ (a' := ?_) ?_ ?_
                            rotate_left
                            · show Act.put _ (some 71) _ = _
                              simp only [Act.put, List.setIfInBounds_toArray, List.set_cons_zero, List.set_cons_succ, i64_w, i32_w]
                              rfl
                            refine one_ (i := 3) (N := some 73) #[true, true, true, true, false, false, false, false, false, false, false, false, false, false, false, false, false] rfl rfl (one_of HT_.out (by kernel_rfl)) (by decide) (fun K hK => ?_)
                            refine goes_ Try.func24 (by kernel_rfl) rfl #[.slice Ao61 x13_3.length co61] (by rfl) rfl rfl (by (try simp only [List.map_toArray, List.map_cons, List.map_nil]); first | done | rfl | (simp only [List.length_drop, List.length_take]; rfl)) ?_
                            with_reducible refine (canopyref1_Check.calls k3 _ _ x13_3 t333 _ ?side1 ?side2 A52.out).mono ?_
                            (case side1 => repeat (first | exact (Kd.R_reads' HO_13.out).2.2 | (with_reducible refine Kd.C_alloc ?_ _) | (with_reducible refine Kd.C_drewN ?_ _) | (with_reducible refine Kd.C_drew ?_)))
                            (case side2 => exact (Kd.R_reads' HO_13.out).2.1)
                            rintro e w' ⟨rfl, ⟨nd, rfl⟩⟩
                            refine ⟨_, rfl, ?_⟩
                            have q63 : (t315 : Int) ≤ ((x13_3.length : Int) : Int) := of_decide_eq_true (by first | (with_reducible assumption) | assumption)
                            obtain ⟨i063, hi063, _, hsz63, _⟩ := info_parts info40
                            have hroom63 : x13_3.length ≤ co61 := (Kd.R_reads' HO_13.out).2.1
                            have hC63 : Kd.C k40 _ Ao61 x13_3.length x13_3 := (Kd.R_reads' HO_13.out).2.2
                            have hcut63 := cut_to (P := Try.prog) 24 40 .i64 Try.underlying24 hi063 Ao61 x13_3.length co61 t315 (of_decide_eq_true (by first | (with_reducible assumption) | assumption)) q63 hroom63
                            have hr63 := Kd.C_take (m := (t315 : Int).toNat) hC63 (by omega)
                            have hy63 : y334.length = (t315 : Int).toNat := (by rw [Ny334.out, List.length_take]; omega)
                            rw [← Ny334.out] at hr63
                            rw [← hy63] at hcut63
                            have HR337 := Aside0.mk hr63
                            have HC337 := Aside0.mk (show y334.length ≤ co61 from by omega)
                            clear hr63 hC63 hroom63 hi063 hsz63
                            have KY63 := Aside0.mk hy63
                            clear hy63
                            have KL63 := Aside0.mk (show (t315 : Int).toNat ≤ x13_3.length from by omega)
                            replace q63 := eq_true q63
                            refine hK.out _ _ trivial (fun hHeld => ?_)
                            clear hK K
                            refine norm_ (a' := ?_) ?_ ?_
                            rotate_left
                            · show Act.put _ (some 73) _ = _
                              simp only [Act.put, List.setIfInBounds_toArray, List.set_cons_zero, List.set_cons_succ, i64_w, i32_w]
                              rfl
                            refine pure_ (i := 4) (N := some 74) (v := ?_) (a' := ?_) #[true, true, true, true, true, false, false, false, false, false, false, false, false, false, false, false, false] rfl rfl (any_of HT_.out (by kernel_rfl)) (fun _ _ _ h => h) (Or.inl ⟨by rfl, ?_⟩) ?_ ?_
                            rotate_left
                            · intro w'
                              go_simp
                              with_reducible rfl
                            rotate_left
                            · simp only [Act.put, List.setIfInBounds_toArray, List.set_cons_zero, List.set_cons_succ, i64_w, i32_w]
                              rfl
                            refine pure_ (i := 5) (N := some 75) (v := ?_) (a' := ?_) #[true, true, true, true, true, true, false, false, false, false, false, false, false, false, false, false, false] rfl rfl (any_of HT_.out (by kernel_rfl)) (fun _ _ _ h => h) (Or.inl ⟨by rfl, ?_⟩) ?_ ?_
                            rotate_left
                            · intro w'
                              go_simp
                              with_reducible rfl
                            rotate_left
                            · simp only [Act.put, List.setIfInBounds_toArray, List.set_cons_zero, List.set_cons_succ, i64_w, i32_w]
                              rfl
                            refine pure_ (i := 6) (N := some 76) (v := ?_) (a' := ?_) #[true, true, true, true, true, true, true, false, false, false, false, false, false, false, false, false, false] rfl rfl (any_of HT_.out (by kernel_rfl)) (fun _ _ _ h => h) (Or.inl ⟨by rfl, ?_⟩) ?_ ?_
                            rotate_left
                            · intro w'
                              go_simp
                              with_reducible rfl
                            rotate_left
                            · simp only [Act.put, List.setIfInBounds_toArray, List.set_cons_zero, List.set_cons_succ, i64_w, i32_w]
                              rfl
                            refine pure_ (i := 7) (N := some 77) (v := ?_) (a' := ?_) #[true, true, true, true, true, true, true, true, false, false, false, false, false, false, false, false, false] rfl rfl (any_of HT_.out (by kernel_rfl)) (fun _ _ _ h => h) (Or.inl ⟨by rfl, ?_⟩) ?_ ?_
                            rotate_left
                            · intro w'
                              go_simp
                              with_reducible rfl
                            rotate_left
                            · simp only [Act.put, List.setIfInBounds_toArray, List.set_cons_zero, List.set_cons_succ, i64_w, i32_w]
                              rfl
                            refine pure_ (i := 8) (N := some 78) (v := ?_) (a' := ?_) #[true, true, true, true, true, true, true, true, true, false, false, false, false, false, false, false, false] rfl rfl (any_of HT_.out (by kernel_rfl)) (fun _ _ _ h => h) (Or.inl ⟨by rfl, ?_⟩) ?_ ?_
                            rotate_left
                            · intro w'
                              go_simp
                              with_reducible rfl
                            rotate_left
                            · simp only [Act.put, List.setIfInBounds_toArray, List.set_cons_zero, List.set_cons_succ, i64_w, i32_w]
                              rfl
                            refine pure_ (i := 10) (N := some 80) (v := ?_) (a' := ?_) #[true, true, true, true, true, true, true, true, true, false, true, false, false, false, false, false, false] rfl rfl (any_of HT_.out (by kernel_rfl)) (fun _ _ _ h => h) (Or.inl ⟨by rfl, ?_⟩) ?_ ?_
                            rotate_left
                            · intro w'
                              go_simp
                              with_reducible rfl
                            rotate_left
                            · simp only [Act.put, List.setIfInBounds_toArray, List.set_cons_zero, List.set_cons_succ, i64_w, i32_w]
                              rfl
                            refine pure_ (i := 11) (N := some 81) (v := ?_) (a' := ?_) #[true, true, true, true, true, true, true, true, true, false, true, true, false, false, false, false, false] rfl rfl (any_of HT_.out (by kernel_rfl)) (fun _ _ _ h => h) (Or.inl ⟨by rfl, ?_⟩) ?_ ?_
                            rotate_left
                            · intro w'
                              go_simp
                              with_reducible rfl
                            rotate_left
                            · simp only [Act.put, List.setIfInBounds_toArray, List.set_cons_zero, List.set_cons_succ, i64_w, i32_w]
                              rfl
                            refine pure_ (i := 12) (N := some 82) (v := ?_) (a' := ?_) #[true, true, true, true, true, true, true, true, true, false, true, true, true, false, false, false, false] rfl rfl (any_of HT_.out (by kernel_rfl)) (fun _ _ _ h => h) (Or.inl ⟨by rfl, ?_⟩) ?_ ?_
                            rotate_left
                            · intro w'
                              go_simp
                              with_reducible rfl
                            rotate_left
                            · simp only [Act.put, List.setIfInBounds_toArray, List.set_cons_zero, List.set_cons_succ, i64_w, i32_w]
                              rfl
                            refine one_ (i := 9) (N := some 79) #[true, true, true, true, true, true, true, true, true, true, true, true, true, false, false, false, false] rfl rfl (one_of HT_.out (by kernel_rfl)) (by decide) (fun K hK => ?_)
                            refine goes_ Try.func23 (by kernel_rfl) rfl #[.slice Ao61 y334.length co61] (by rfl) rfl rfl (by (try simp only [List.map_toArray, List.map_cons, List.map_nil]); first | done | rfl | (simp only [List.length_drop, List.length_take]; rfl)) ?_
                            with_reducible refine (word_Check.calls k3 _ _ y334 t338 _ ?side1 ?side2 A56.out).mono ?_
                            (case side1 => repeat (first | exact (by repeat (first | (with_reducible exact HR337.out) | (with_reducible refine Kd.C_alloc ?_ _) | (with_reducible refine Kd.C_drewN ?_ _) | (with_reducible refine Kd.C_drew ?_) | exact HR337.out)) | (with_reducible refine Kd.C_alloc ?_ _) | (with_reducible refine Kd.C_drewN ?_ _) | (with_reducible refine Kd.C_drew ?_)))
                            (case side2 => exact HC337.out)
                            rintro e w64 ⟨rfl, hb⟩
                            refine ⟨_, rfl, ?_⟩
                            have n0_ := Aside0.mk (Kd.R_below (by (with_reducible repeat (first | apply Kd.R_alloc | apply Kd.R_drewN | apply Kd.R_drew)); exact HO_13.out) hb)
                            have n1_ := Aside0.mk (Kd.C_below (by repeat (first | (with_reducible exact HR337.out) | (with_reducible refine Kd.C_alloc ?_ _) | (with_reducible refine Kd.C_drewN ?_ _) | (with_reducible refine Kd.C_drew ?_) | exact HR337.out)) hb)
                            have n2_ := Aside0.mk (below_step (by repeat (first | (with_reducible first | exact HB.out | apply below_alloc | apply pw_below_drewN | apply below_drew1) | exact HB.out)) hb)
                            clear HO_13
                            clear HR337
                            clear HB
                            have HO_13 := n0_
                            have HR337 := n1_
                            have HB := n2_
                            clear n0_ n1_ n2_
                            (try clear hb)
                            (try clear hb2)
                            (try clear hk)
                            (try clear hi)
                            have q65 : (t315 : Int) ≤ ((x13_3.length : Int) : Int) := of_decide_eq_true (by first | (with_reducible assumption) | assumption)
                            obtain ⟨i065, hi065, _, hsz65, _⟩ := info_parts info40
                            have hroom65 : x13_3.length ≤ co61 := (Kd.R_reads' HO_13.out).2.1
                            have hC65 : Kd.C k40 _ Ao61 x13_3.length x13_3 := (Kd.R_reads' HO_13.out).2.2
                            have hcut65 := cut_to (P := Try.prog) 24 40 .i64 Try.underlying24 hi065 Ao61 x13_3.length co61 t315 (of_decide_eq_true (by first | (with_reducible assumption) | assumption)) q65 hroom65
                            have hr65 := Kd.C_take (m := (t315 : Int).toNat) hC65 (by omega)
                            have hy65 : y339.length = (t315 : Int).toNat := (by rw [Ny339.out, List.length_take]; omega)
                            rw [← Ny339.out] at hr65
                            rw [← hy65] at hcut65
                            have HR342 := Aside0.mk hr65
                            have HC342 := Aside0.mk (show y339.length ≤ co61 from by omega)
                            clear hr65 hC65 hroom65 hi065 hsz65
                            have KY65 := Aside0.mk hy65
                            clear hy65
                            have KL65 := Aside0.mk (show (t315 : Int).toNat ≤ x13_3.length from by omega)
                            replace q65 := eq_true q65
                            refine hK.out _ _ trivial (fun hHeld => ?_)
                            clear hK K
                            refine norm_ (a' := ?_) ?_ ?_
                            rotate_left
                            · show Act.put _ (some 79) _ = _
                              simp only [Act.put, List.setIfInBounds_toArray, List.set_cons_zero, List.set_cons_succ, i64_w, i32_w]
                              rfl
                            refine one_ (i := 13) (N := some 83) #[true, true, true, true, true, true, true, true, true, true, true, true, true, true, false, false, false] rfl rfl (one_of HT_.out (by kernel_rfl)) (by decide) (fun K hK => ?_)
                            refine goes_ Try.func24 (by kernel_rfl) rfl #[.slice Ao61 y339.length co61] (by rfl) rfl rfl (by (try simp only [List.map_toArray, List.map_cons, List.map_nil]); first | done | rfl | (simp only [List.length_drop, List.length_take]; rfl) | (rw [show y339 = y334 from Ny339.out.trans Ny334.out.symm]; first | done | rfl)) ?_
                            with_reducible refine (canopyref1_Check.calls k3 _ _ y339 t343 _ ?side1 ?side2 A59.out).mono ?_
                            (case side1 => repeat (first | exact (by repeat (first | (with_reducible exact HR342.out) | (with_reducible refine Kd.C_alloc ?_ _) | (with_reducible refine Kd.C_drewN ?_ _) | (with_reducible refine Kd.C_drew ?_) | exact HR342.out)) | (with_reducible refine Kd.C_alloc ?_ _) | (with_reducible refine Kd.C_drewN ?_ _) | (with_reducible refine Kd.C_drew ?_)))
                            (case side2 => exact HC342.out)
                            rintro e w' ⟨rfl, ⟨nd, rfl⟩⟩
                            refine ⟨_, rfl, ?_⟩
                            refine hK.out _ _ trivial (fun hHeld => ?_)
                            clear hK K
                            refine norm_ (a' := ?_) ?_ ?_
                            rotate_left
                            · show Act.put _ (some 83) _ = _
                              simp only [Act.put, List.setIfInBounds_toArray, List.set_cons_zero, List.set_cons_succ, i64_w, i32_w]
                              rfl
                            refine pure_ (i := 14) (N := some 84) (v := ?_) (a' := ?_) #[true, true, true, true, true, true, true, true, true, true, true, true, true, true, true, false, false] rfl rfl (any_of HT_.out (by kernel_rfl)) (fun _ _ _ h => h) (Or.inl ⟨by rfl, ?_⟩) ?_ ?_
                            rotate_left
                            · intro w'
                              go_simp
                              with_reducible rfl
                            rotate_left
                            · simp only [Act.put, List.setIfInBounds_toArray, List.set_cons_zero, List.set_cons_succ, i64_w, i32_w]
                              rfl
                            refine pure_ (i := 15) (N := some 85) (v := ?_) (a' := ?_) #[true, true, true, true, true, true, true, true, true, true, true, true, true, true, true, true, false] rfl rfl (any_of HT_.out (by kernel_rfl)) (fun _ _ _ h => h) (Or.inl ⟨by rfl, ?_⟩) ?_ ?_
                            rotate_left
                            · intro w'
                              go_simp
                              with_reducible rfl
                            rotate_left
                            · simp only [Act.put, List.setIfInBounds_toArray, List.set_cons_zero, List.set_cons_succ, i64_w, i32_w]
                              rfl
                            refine pure_ (i := 16) (N := some 12) (v := ?_) (a' := ?_) #[true, true, true, true, true, true, true, true, true, true, true, true, true, true, true, true, true] rfl rfl (any_of HT_.out (by kernel_rfl)) (fun _ _ _ h => h) (Or.inl ⟨by rfl, ?_⟩) ?_ ?_
                            rotate_left
                            · intro w'
                              go_simp
                              with_reducible rfl
                            rotate_left
                            · simp only [Act.put, List.setIfInBounds_toArray, List.set_cons_zero, List.set_cons_succ, i64_w, i32_w]
                              rfl
                            refine done_ (done_of HT_.out (by kernel_rfl)) ?_
                            try go_wp2
                            go_ret
                            exact ⟨by first | rfl | (simp [errW_none, errW_some] <;> rfl) | (simp [*, errW_none, errW_some] <;> rfl), by repeat (first | (with_reducible first | exact HB.out | apply below_alloc | apply pw_below_drewN | apply below_drew1) | exact HB.out)⟩
                          · rw [if_neg c55] at H
                            exact absurd H (by simp)
                        · rw [if_neg c54] at H
                          exact absurd H (by simp)
                      · rw [if_neg c53] at H
                        have c53b0 : (t332 == t333) = false := beq_eq_false_iff_ne.mpr c53
                        have c53b1 : (t332 != t333) = true := bne_iff_ne.mpr c53
                        obtain rfl := Option.some.inj H
                        try go_wp2_with (first | ((with_reducible refine gate_callee (f := 18) rfl ?_); refine goesL_ (some 53) rfl rfl Try.func18 (by kernel_rfl) rfl #[.int .i64 a5, .int .i64 20] rfl (by (try simp only [List.map_toArray, List.map_cons, List.map_nil]); first | done | rfl | (simp only [List.length_drop, List.length_take]; rfl)) ?_; (with_reducible refine (canopylaw1_within.calls a5 20 t325 _ A43.out).mono ?_); rintro e w' ⟨rfl, rfl⟩; refine ⟨_, rfl, ?_⟩))
                        (try (rw [drewN_self wr]; generalize hq_ : World.drewN wr _ = wr; have n0_ : Aside0 (Kd.R k40 40 wr w.heap.size (fun _ => True) u13 x13_3) := ⟨by rw [← hq_]; exact (by (with_reducible repeat (first | apply Kd.R_alloc | apply Kd.R_drewN | apply Kd.R_drew)); exact HO_13.out)⟩; have n1_ : Aside0 (Below w.heap.size w wr) := ⟨by rw [← hq_]; exact (by repeat (first | (with_reducible first | exact HB.out | apply below_alloc | apply pw_below_drewN | apply below_drew1) | exact HB.out))⟩; clear HO_13 HB hq_; have HO_13 := n0_; have HB := n1_; clear n0_ n1_))
                        have n0_ := Aside0.mk (Kd.R_drew HO_13.out)
                        have n1_ := Aside0.mk (below_drew1 HB.out)
                        clear HO_13
                        clear HB
                        have HO_13 := n0_
                        have HB := n1_
                        clear n0_ n1_
                        obtain ⟨Ao67, co67, eo67⟩ := Kd.R_slice HO_13.out
                        (first | subst eo67 | (injection eo67 with f1_ f2_ f3_; have f4_ := f1_.symm; have f5_ := f3_.symm; clear f1_ f2_ f3_; subst f4_; subst f5_))
                        refine start_ (n := 17) (S := fun w' => True) (ds := []) #[false, false, false, false, false, false, false, false, false, false, false, false, false, false, false, false, false] (by kernel_rfl) rfl rfl trivial (fun hHeld => ?_); refine with_tabW canopylaw1_WordChecks.tab15 canopylaw1_WordChecks.bits15 (fun HT_ HW_ => ?_)
                        generalize wr.drew = w66 at HO_13 HB hHeld ⊢
                        refine pure_ (i := 0) (N := some 70) (v := ?_) (a' := ?_) #[true, false, false, false, false, false, false, false, false, false, false, false, false, false, false, false, false] rfl rfl (any_of HT_.out (by kernel_rfl)) (fun _ _ _ h => h) (Or.inl ⟨by rfl, ?_⟩) ?_ ?_
                        rotate_left
                        · intro w'
                          go_simp
                          with_reducible rfl
                        rotate_left
                        · simp only [Act.put, List.setIfInBounds_toArray, List.set_cons_zero, List.set_cons_succ, i64_w, i32_w]
                          rfl
                        refine pure_ (i := 2) (N := some 72) (v := ?_) (a' := ?_) #[true, false, true, false, false, false, false, false, false, false, false, false, false, false, false, false, false] rfl rfl (any_of HT_.out (by kernel_rfl)) (fun _ _ _ h => h) (Or.inl ⟨by rfl, ?_⟩) ?_ ?_
                        rotate_left
                        · intro w'
                          go_simp
                          with_reducible rfl
                        rotate_left
                        · simp only [Act.put, List.setIfInBounds_toArray, List.set_cons_zero, List.set_cons_succ, i64_w, i32_w]
                          rfl
                        refine one_ (i := 1) (N := some 71) #[true, true, true, false, false, false, false, false, false, false, false, false, false, false, false, false, false] rfl rfl (one_of HT_.out (by kernel_rfl)) (by decide) (fun K hK => ?_)
                        refine goes_ Try.func23 (by kernel_rfl) rfl #[.slice Ao67 x13_3.length co67] (by rfl) rfl rfl (by (try simp only [List.map_toArray, List.map_cons, List.map_nil]); first | done | rfl | (simp only [List.length_drop, List.length_take]; rfl)) ?_
                        with_reducible refine (word_Check.calls k3 _ _ x13_3 t332 _ ?side1 ?side2 A51.out).mono ?_
                        (case side1 => repeat (first | exact (Kd.R_reads' HO_13.out).2.2 | (with_reducible refine Kd.C_alloc ?_ _) | (with_reducible refine Kd.C_drewN ?_ _) | (with_reducible refine Kd.C_drew ?_)))
                        (case side2 => exact (Kd.R_reads' HO_13.out).2.1)
                        rintro e w68 ⟨rfl, hb⟩
                        refine ⟨_, rfl, ?_⟩
                        have n0_ := Aside0.mk (Kd.R_below (by (with_reducible repeat (first | apply Kd.R_alloc | apply Kd.R_drewN | apply Kd.R_drew)); exact HO_13.out) hb)
                        have n1_ := Aside0.mk (below_step (by repeat (first | (with_reducible first | exact HB.out | apply below_alloc | apply pw_below_drewN | apply below_drew1) | exact HB.out)) hb)
                        clear HO_13
                        clear HB
                        have HO_13 := n0_
                        have HB := n1_
                        clear n0_ n1_
                        (try clear hb)
                        (try clear hb2)
                        (try clear hk)
                        (try clear hi)
                        refine hK.out _ _ trivial (fun hHeld => ?_)
                        clear hK K
                        refine norm_ (a' := ?_) ?_ ?_
                        rotate_left
                        · show Act.put _ (some 71) _ = _
                          simp only [Act.put, List.setIfInBounds_toArray, List.set_cons_zero, List.set_cons_succ, i64_w, i32_w]
                          rfl
                        refine one_ (i := 3) (N := some 73) #[true, true, true, true, false, false, false, false, false, false, false, false, false, false, false, false, false] rfl rfl (one_of HT_.out (by kernel_rfl)) (by decide) (fun K hK => ?_)
                        refine goes_ Try.func24 (by kernel_rfl) rfl #[.slice Ao67 x13_3.length co67] (by rfl) rfl rfl (by (try simp only [List.map_toArray, List.map_cons, List.map_nil]); first | done | rfl | (simp only [List.length_drop, List.length_take]; rfl)) ?_
                        with_reducible refine (canopyref1_Check.calls k3 _ _ x13_3 t333 _ ?side1 ?side2 A52.out).mono ?_
                        (case side1 => repeat (first | exact (Kd.R_reads' HO_13.out).2.2 | (with_reducible refine Kd.C_alloc ?_ _) | (with_reducible refine Kd.C_drewN ?_ _) | (with_reducible refine Kd.C_drew ?_)))
                        (case side2 => exact (Kd.R_reads' HO_13.out).2.1)
                        rintro e w' ⟨rfl, ⟨nd, rfl⟩⟩
                        refine ⟨_, rfl, ?_⟩
                        refine hK.out _ _ trivial (fun hHeld => ?_)
                        clear hK K
                        refine norm_ (a' := ?_) ?_ ?_
                        rotate_left
                        · show Act.put _ (some 73) _ = _
                          simp only [Act.put, List.setIfInBounds_toArray, List.set_cons_zero, List.set_cons_succ, i64_w, i32_w]
                          rfl
                        refine pure_ (i := 4) (N := some 74) (v := ?_) (a' := ?_) #[true, true, true, true, true, false, false, false, false, false, false, false, false, false, false, false, false] rfl rfl (any_of HT_.out (by kernel_rfl)) (fun _ _ _ h => h) (Or.inl ⟨by rfl, ?_⟩) ?_ ?_
                        rotate_left
                        · intro w'
                          go_simp
                          with_reducible rfl
                        rotate_left
                        · simp only [Act.put, List.setIfInBounds_toArray, List.set_cons_zero, List.set_cons_succ, i64_w, i32_w]
                          rfl
                        refine pure_ (i := 5) (N := some 75) (v := ?_) (a' := ?_) #[true, true, true, true, true, true, false, false, false, false, false, false, false, false, false, false, false] rfl rfl (any_of HT_.out (by kernel_rfl)) (fun _ _ _ h => h) (Or.inl ⟨by rfl, ?_⟩) ?_ ?_
                        rotate_left
                        · intro w'
                          go_simp
                          with_reducible rfl
                        rotate_left
                        · simp only [Act.put, List.setIfInBounds_toArray, List.set_cons_zero, List.set_cons_succ, i64_w, i32_w]
                          rfl
                        refine pure_ (i := 6) (N := some 76) (v := undef) (a' := ?_) #[true, true, true, true, true, true, true, false, false, false, false, false, false, false, false, false, false] rfl rfl (any_of HT_.out (by kernel_rfl)) (fun _ _ _ h => h) (Or.inr ⟨by rfl, rfl⟩) ?_ ?_
                        rotate_left
                        · simp only [Act.put, List.setIfInBounds_toArray, List.set_cons_zero, List.set_cons_succ, i64_w, i32_w]
                          rfl
                        refine pure_ (i := 7) (N := some 77) (v := undef) (a' := ?_) #[true, true, true, true, true, true, true, true, false, false, false, false, false, false, false, false, false] rfl rfl (any_of HT_.out (by kernel_rfl)) (fun _ _ _ h => h) (Or.inr ⟨by rfl, rfl⟩) ?_ ?_
                        rotate_left
                        · simp only [Act.put, List.setIfInBounds_toArray, List.set_cons_zero, List.set_cons_succ, i64_w, i32_w]
                          rfl
                        refine pure_ (i := 8) (N := some 78) (v := undef) (a' := ?_) #[true, true, true, true, true, true, true, true, true, false, false, false, false, false, false, false, false] rfl rfl (any_of HT_.out (by kernel_rfl)) (fun _ _ _ h => h) (Or.inr ⟨by rfl, rfl⟩) ?_ ?_
                        rotate_left
                        · simp only [Act.put, List.setIfInBounds_toArray, List.set_cons_zero, List.set_cons_succ, i64_w, i32_w]
                          rfl
                        refine pure_ (i := 9) (N := some 79) (v := undef) (a' := ?_) #[true, true, true, true, true, true, true, true, true, true, false, false, false, false, false, false, false] rfl rfl (any_of HT_.out (by kernel_rfl)) (fun _ _ _ h => h) (Or.inr ⟨by rfl, rfl⟩) ?_ ?_
                        rotate_left
                        · simp only [Act.put, List.setIfInBounds_toArray, List.set_cons_zero, List.set_cons_succ, i64_w, i32_w]
                          rfl
                        refine pure_ (i := 10) (N := some 80) (v := undef) (a' := ?_) #[true, true, true, true, true, true, true, true, true, true, true, false, false, false, false, false, false] rfl rfl (any_of HT_.out (by kernel_rfl)) (fun _ _ _ h => h) (Or.inr ⟨by rfl, rfl⟩) ?_ ?_
                        rotate_left
                        · simp only [Act.put, List.setIfInBounds_toArray, List.set_cons_zero, List.set_cons_succ, i64_w, i32_w]
                          rfl
                        refine pure_ (i := 11) (N := some 81) (v := undef) (a' := ?_) #[true, true, true, true, true, true, true, true, true, true, true, true, false, false, false, false, false] rfl rfl (any_of HT_.out (by kernel_rfl)) (fun _ _ _ h => h) (Or.inr ⟨by rfl, rfl⟩) ?_ ?_
                        rotate_left
                        · simp only [Act.put, List.setIfInBounds_toArray, List.set_cons_zero, List.set_cons_succ, i64_w, i32_w]
                          rfl
                        refine pure_ (i := 12) (N := some 82) (v := undef) (a' := ?_) #[true, true, true, true, true, true, true, true, true, true, true, true, true, false, false, false, false] rfl rfl (any_of HT_.out (by kernel_rfl)) (fun _ _ _ h => h) (Or.inr ⟨by rfl, rfl⟩) ?_ ?_
                        rotate_left
                        · simp only [Act.put, List.setIfInBounds_toArray, List.set_cons_zero, List.set_cons_succ, i64_w, i32_w]
                          rfl
                        refine pure_ (i := 13) (N := some 83) (v := undef) (a' := ?_) #[true, true, true, true, true, true, true, true, true, true, true, true, true, true, false, false, false] rfl rfl (any_of HT_.out (by kernel_rfl)) (fun _ _ _ h => h) (Or.inr ⟨by rfl, rfl⟩) ?_ ?_
                        rotate_left
                        · simp only [Act.put, List.setIfInBounds_toArray, List.set_cons_zero, List.set_cons_succ, i64_w, i32_w]
                          rfl
                        refine pure_ (i := 14) (N := some 84) (v := undef) (a' := ?_) #[true, true, true, true, true, true, true, true, true, true, true, true, true, true, true, false, false] rfl rfl (any_of HT_.out (by kernel_rfl)) (fun _ _ _ h => h) (Or.inr ⟨by rfl, rfl⟩) ?_ ?_
                        rotate_left
                        · simp only [Act.put, List.setIfInBounds_toArray, List.set_cons_zero, List.set_cons_succ, i64_w, i32_w]
                          rfl
                        refine pure_ (i := 15) (N := some 85) (v := ?_) (a' := ?_) #[true, true, true, true, true, true, true, true, true, true, true, true, true, true, true, true, false] rfl rfl (any_of HT_.out (by kernel_rfl)) (fun _ _ _ h => h) (Or.inl ⟨by rfl, ?_⟩) ?_ ?_
                        rotate_left
                        · intro w'
                          go_simp
                          with_reducible rfl
                        rotate_left
                        · simp only [Act.put, List.setIfInBounds_toArray, List.set_cons_zero, List.set_cons_succ, i64_w, i32_w]
                          rfl
                        refine pure_ (i := 16) (N := some 12) (v := ?_) (a' := ?_) #[true, true, true, true, true, true, true, true, true, true, true, true, true, true, true, true, true] rfl rfl (any_of HT_.out (by kernel_rfl)) (fun _ _ _ h => h) (Or.inl ⟨by rfl, ?_⟩) ?_ ?_
                        rotate_left
                        · intro w'
                          go_simp
                          with_reducible rfl
                        rotate_left
                        · simp only [Act.put, List.setIfInBounds_toArray, List.set_cons_zero, List.set_cons_succ, i64_w, i32_w]
                          rfl
                        refine done_ (done_of HT_.out (by kernel_rfl)) ?_
                        try go_wp2
                        go_ret
                        exact ⟨by first | rfl | (simp [errW_none, errW_some] <;> rfl) | (simp [*, errW_none, errW_some] <;> rfl), by repeat (first | (with_reducible first | exact HB.out | apply below_alloc | apply pw_below_drewN | apply below_drew1) | exact HB.out)⟩
      · rw [if_neg c12] at H
        exact absurd H (by simp)
  · replace c8 := Bool.eq_false_iff.mpr c8
    subst c8
    have H1 : (some false) = some r := by rw [if_neg (show ¬ (false = true) by decide)] at H; exact H
    clear H
    have H := H1
    clear H1
    obtain rfl := Option.some.inj H
    go_enter Try.func5, Try.ntmps5
    go_wp2_with (first | ((with_reducible refine gate_callee (f := 13) rfl ?_); refine goesL_ (some 16) rfl rfl Try.func13 (by kernel_rfl) rfl #[] rfl (by (try simp only [List.map_toArray, List.map_cons, List.map_nil]); first | done | rfl | (simp only [List.length_drop, List.length_take]; rfl)) ?_; (with_reducible refine (canopylaw1_known.calls k  false _ A7.out).mono ?_); rintro e w69 ⟨rfl, hb⟩; refine ⟨_, rfl, ?_⟩; have n0_ := Aside0.mk (below_step (by repeat (first | (with_reducible first | exact HB.out | apply below_alloc | apply pw_below_drewN | apply below_drew1) | exact HB.out)) hb); clear HB; have HB := n0_; clear n0_; (try clear hb); (try clear hb2); (try clear hk); (try clear hi)))
    go_ret
    exact ⟨by first | rfl | (simp [errW_none, errW_some] <;> rfl) | (simp [*, errW_none, errW_some] <;> rfl), by repeat (first | (with_reducible first | exact HB.out | apply below_alloc | apply pw_below_drewN | apply below_drew1) | exact HB.out)⟩

/-- THE ONE PURE STATEMENT of canopylaw1_WordChecks: yours. -/
def canopylaw1_WordChecks.Pure : Prop := ∀ (a0 : Int) (l1 : List Int) (a2 : Int) (a3 : ByteArray) (a4 : Int) (a5 : Int), (Lit.int .i64 a0).wf = true → l1.length ≤ maxLen → l1.length * 8 ≤ 140737488351232 → (∀ x ∈ l1, (Lit.int .i64 x).wf = true) → (Lit.int .i64 a2).wf = true → a3.size ≤ 140737488351232 → (Lit.int .i64 a4).wf = true → (Lit.int .i64 a5).wf = true → ∃ k, canopylaw1_WordChecks.f k a0 l1 a2 a3 a4 a5 = some true
theorem canopylaw1_WordChecks.walk (P : canopylaw1_WordChecks.Pure) (a0 : Int) (a1 : Option Addr) (len1 cap1 : Nat) (z1 : List Int) (a2 : Int) (a3 : ByteArray) (a4 : Int) (a5 : Int) (w : World) (w0 : (Lit.int .i64 a0).wf = true) (w1 : (a1 = none ∧ len1 = 0 ∧ cap1 = 0 ∧ z1 = []) ∨ ∃ x, a1 = some x ∧ len1 ≤ cap1 ∧ cap1 ≤ maxLen ∧ z1.length = cap1 ∧ (∀ i, i < z1.length → w.cell? (x.add i) = some (.int .i64 (z1.getD i 0))) ∧ ∀ n ∈ z1, (Lit.int .i64 n).wf = true) (y1 : len1 * 8 ≤ 140737488351232) (w2 : (Lit.int .i64 a2).wf = true) (w3 : a3.size ≤ 140737488351232) (w4 : (Lit.int .i64 a4).wf = true) (w5 : (Lit.int .i64 a5).wf = true) :
    Calls Try.prog 5 #[.int .i64 a0, .slice a1 len1 cap1, .int .i64 a2, .string a3, .int .i64 a4, .int .i64 a5] w fun e w' => e = .returned (.bool true) ∧ Below w.heap.size w w' := by
  obtain ⟨l1, rfl, hr1, hm1, hw1, hc1⟩ := ReadsInt.ofRowC w1
  obtain ⟨k, h⟩ := P a0 l1 a2 a3 a4 a5 w0 hm1 y1 hw1 w2 w3 w4 w5
  refine (canopylaw1_WordChecks.calls k a0 _ _ l1 a2 a3 a4 a5 true w (Kd.C_of_reads (d := (0 : Int)) (h1 := fun _ => rfl) hr1) hc1 h).mono ?_
  rintro e w' ⟨rfl, hd⟩
  exact ⟨rfl, hd⟩

end Go.Proofs.Ytiibfkjfanglbaa.P
