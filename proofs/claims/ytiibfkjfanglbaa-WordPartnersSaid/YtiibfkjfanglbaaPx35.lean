-- written by pp.py (wip/tools of this session's repo) out of the seat's translation
import Derived.Test.YtiibfkjfanglbaaPx0
import Derived.Test.YtiibfkjfanglbaaPx3
import Derived.Test.YtiibfkjfanglbaaPx14
import Derived.Test.YtiibfkjfanglbaaPx17
import Derived.Test.YtiibfkjfanglbaaPx18
namespace Go.Proofs.Ytiibfkjfanglbaa.P
open Go.RowKit Go.Proofs.YtiibfkjfanglbaaW.PrintWords Go.Proofs.YtiibfkjfanglbaaW.PrintLast Go.Proofs.YtiibfkjfanglbaaW.PrintMore
attribute [local go_sem] max2_int min2_int max_two min_two max_three min_three max_four min_four   -- for this text's walks alone
set_option linter.unusedVariables false
set_option linter.unusedSimpArgs false

/-! ### canopylaw1_WordPartners: function 7 -/
mutual
def canopylaw1_WordPartners.l0 : Nat → List (S40) → List Int → List Int → Int → Option (Bool)
  | 0, _, _, _, _ => none
  | k + 1, x5, x6, x7, x8 => if x8 < (x7.length : Int) then (if 0 ≤ x8 then (if (rd x7 x8) = (-1) then (canopylaw1_WordPartners.l0 k x5 x6 x7 (wrap64 (x8 + 1))) else (if (rd x7 x8) < 0 then (canopylaw1_WordPartners.j1 k x5 x6 x7 x8 true) else (if (rd x7 x8) ≥ (x7.length : Int) then (canopylaw1_WordPartners.j1 k x5 x6 x7 x8 true) else (if 0 ≤ (rd x7 x8) then (if (rd x7 x8) < (x7.length : Int) then (if (rd x7 (rd x7 x8)) = x8 then (canopylaw1_WordPartners.j1 k x5 x6 x7 x8 ((rd x7 x8) == x8)) else (canopylaw1_WordPartners.j1 k x5 x6 x7 x8 true)) else (none)) else (none))))) else (none)) else (some true)
def canopylaw1_WordPartners.j1 : Nat → List (S40) → List Int → List Int → Int → Bool → Option (Bool)
  | 0, _, _, _, _, _ => none
  | k + 1, x5, x6, x7, x8, x71 => if x71 = true then (some false) else (if 0 ≤ x8 then (if x8 < (x7.length : Int) then (if 0 ≤ (mn x8 (rd x7 x8)) then (if (mn x8 (rd x7 x8)) < (x6.length : Int) then (if 0 ≤ (rd x6 (mn x8 (rd x7 x8))) then (if (rd x6 (mn x8 (rd x7 x8))) < (x5.length : Int) then (if ((rd_T40 x5 (rd x6 (mn x8 (rd x7 x8)))).f1) = 1 then (if 0 ≤ (mx x8 (rd x7 x8)) then (if (mx x8 (rd x7 x8)) < (x6.length : Int) then (if 0 ≤ (rd x6 (mx x8 (rd x7 x8))) then (if (rd x6 (mx x8 (rd x7 x8))) < (x5.length : Int) then (canopylaw1_WordPartners.j2 k x5 x6 x7 x8 (mn x8 (rd x7 x8)) (mx x8 (rd x7 x8)) (((rd_T40 x5 (rd x6 (mx x8 (rd x7 x8)))).f1) != 2)) else (none)) else (none)) else (none)) else (none)) else (canopylaw1_WordPartners.j2 k x5 x6 x7 x8 (mn x8 (rd x7 x8)) (mx x8 (rd x7 x8)) true)) else (none)) else (none)) else (none)) else (none)) else (none)) else (none))
def canopylaw1_WordPartners.j2 : Nat → List (S40) → List Int → List Int → Int → Int → Int → Bool → Option (Bool)
  | 0, _, _, _, _, _, _, _ => none
  | k + 1, x5, x6, x7, x8, x9, x10, x103 => if x103 = true then (some false) else (canopylaw1_WordPartners.l1 k x5 x6 x7 x8 x9 x10 (wrap64 (x9 + 1)))
def canopylaw1_WordPartners.l1 : Nat → List (S40) → List Int → List Int → Int → Int → Int → Int → Option (Bool)
  | 0, _, _, _, _, _, _, _ => none
  | k + 1, x5, x6, x7, x8, x9, x10, x11 => if x11 < x10 then (if 0 ≤ x11 then (if x11 < (x7.length : Int) then (if (rd x7 x11) = (-1) then (if x11 < (x6.length : Int) then (if 0 ≤ (rd x6 x11) then (if (rd x6 x11) < (x5.length : Int) then (if ((rd_T40 x5 (rd x6 x11)).f1) = 3 then (canopylaw1_WordPartners.l1 k x5 x6 x7 x8 x9 x10 (wrap64 (x11 + 1))) else (some false)) else (none)) else (none)) else (none)) else (if (rd x7 x11) < x9 then (some false) else (if (rd x7 x11) > x10 then (some false) else (canopylaw1_WordPartners.l1 k x5 x6 x7 x8 x9 x10 (wrap64 (x11 + 1)))))) else (none)) else (none)) else (canopylaw1_WordPartners.l0 k x5 x6 x7 (wrap64 (x8 + 1)))
end
def canopylaw1_WordPartners.f (k : Nat) (a0 : Int) (l1 : List Int) : Option (Bool) := (canopylaw1_known.f k).bind fun t385 => (if t385 = true then ((canopylaw1_Syms.f a0 l1).bind fun t386 => ((canopylaw1_Word.f k t386 l1 40).bind fun t389 => ((word_Match.f k t386 t389).bind fun t392 => (if (t392.length : Int) = (t389.length : Int) then (canopylaw1_WordPartners.l0 k t386 t389 t392 0) else (some false))))) else (some false))
theorem canopylaw1_WordPartners.mono_l : ∀ k, (∀ y0 y1 y2 y3, LeO (canopylaw1_WordPartners.l0 k y0 y1 y2 y3) (canopylaw1_WordPartners.l0 (k + 1) y0 y1 y2 y3)) ∧ (∀ y0 y1 y2 y3 y4, LeO (canopylaw1_WordPartners.j1 k y0 y1 y2 y3 y4) (canopylaw1_WordPartners.j1 (k + 1) y0 y1 y2 y3 y4)) ∧ (∀ y0 y1 y2 y3 y4 y5 y6, LeO (canopylaw1_WordPartners.j2 k y0 y1 y2 y3 y4 y5 y6) (canopylaw1_WordPartners.j2 (k + 1) y0 y1 y2 y3 y4 y5 y6)) ∧ (∀ y0 y1 y2 y3 y4 y5 y6, LeO (canopylaw1_WordPartners.l1 k y0 y1 y2 y3 y4 y5 y6) (canopylaw1_WordPartners.l1 (k + 1) y0 y1 y2 y3 y4 y5 y6))
  | 0 => ⟨fun _ _ _ _ r h => by simp [canopylaw1_WordPartners.l0] at h, fun _ _ _ _ _ r h => by simp [canopylaw1_WordPartners.j1] at h, fun _ _ _ _ _ _ _ r h => by simp [canopylaw1_WordPartners.j2] at h, fun _ _ _ _ _ _ _ r h => by simp [canopylaw1_WordPartners.l1] at h⟩
  | k + 1 => by
    obtain ⟨ih0, ih1, ih2, ih3⟩ := canopylaw1_WordPartners.mono_l k
    refine ⟨?_, ?_, ?_, ?_⟩
    · intro y0 y1 y2 y3
      unfold canopylaw1_WordPartners.l0
      repeat' first
      | (with_reducible exact ih0 _ _ _ _)
      | (with_reducible exact ih1 _ _ _ _ _)
      | (with_reducible exact ih2 _ _ _ _ _ _ _)
      | (with_reducible exact ih3 _ _ _ _ _ _ _)
      | (with_reducible exact canopylaw1_Word.mono _ _ _ _)
      | (with_reducible exact canopylaw1_known.mono _)
      | (with_reducible exact word_Match.mono _ _ _)
      | (with_reducible exact LeO.refl _)
      | (with_reducible exact LeO.none _)
      | (with_reducible refine LeO.ite ?_ ?_)
      | (with_reducible refine LeO.bind ?_ (fun _ => ?_))
      | exact ih0 _ _ _ _
      | exact ih1 _ _ _ _ _
      | exact ih2 _ _ _ _ _ _ _
      | exact ih3 _ _ _ _ _ _ _
      | exact canopylaw1_Word.mono _ _ _ _
      | exact canopylaw1_known.mono _
      | exact word_Match.mono _ _ _
      | exact LeO.none _
      | refine LeO.ite ?_ ?_
      | refine LeO.bind ?_ (fun _ => ?_)
    · intro y0 y1 y2 y3 y4
      unfold canopylaw1_WordPartners.j1
      repeat' first
      | (with_reducible exact ih0 _ _ _ _)
      | (with_reducible exact ih1 _ _ _ _ _)
      | (with_reducible exact ih2 _ _ _ _ _ _ _)
      | (with_reducible exact ih3 _ _ _ _ _ _ _)
      | (with_reducible exact canopylaw1_Word.mono _ _ _ _)
      | (with_reducible exact canopylaw1_known.mono _)
      | (with_reducible exact word_Match.mono _ _ _)
      | (with_reducible exact LeO.refl _)
      | (with_reducible exact LeO.none _)
      | (with_reducible refine LeO.ite ?_ ?_)
      | (with_reducible refine LeO.bind ?_ (fun _ => ?_))
      | exact ih0 _ _ _ _
      | exact ih1 _ _ _ _ _
      | exact ih2 _ _ _ _ _ _ _
      | exact ih3 _ _ _ _ _ _ _
      | exact canopylaw1_Word.mono _ _ _ _
      | exact canopylaw1_known.mono _
      | exact word_Match.mono _ _ _
      | exact LeO.none _
      | refine LeO.ite ?_ ?_
      | refine LeO.bind ?_ (fun _ => ?_)
    · intro y0 y1 y2 y3 y4 y5 y6
      unfold canopylaw1_WordPartners.j2
      repeat' first
      | (with_reducible exact ih0 _ _ _ _)
      | (with_reducible exact ih1 _ _ _ _ _)
      | (with_reducible exact ih2 _ _ _ _ _ _ _)
      | (with_reducible exact ih3 _ _ _ _ _ _ _)
      | (with_reducible exact canopylaw1_Word.mono _ _ _ _)
      | (with_reducible exact canopylaw1_known.mono _)
      | (with_reducible exact word_Match.mono _ _ _)
      | (with_reducible exact LeO.refl _)
      | (with_reducible exact LeO.none _)
      | (with_reducible refine LeO.ite ?_ ?_)
      | (with_reducible refine LeO.bind ?_ (fun _ => ?_))
      | exact ih0 _ _ _ _
      | exact ih1 _ _ _ _ _
      | exact ih2 _ _ _ _ _ _ _
      | exact ih3 _ _ _ _ _ _ _
      | exact canopylaw1_Word.mono _ _ _ _
      | exact canopylaw1_known.mono _
      | exact word_Match.mono _ _ _
      | exact LeO.none _
      | refine LeO.ite ?_ ?_
      | refine LeO.bind ?_ (fun _ => ?_)
    · intro y0 y1 y2 y3 y4 y5 y6
      unfold canopylaw1_WordPartners.l1
      repeat' first
      | (with_reducible exact ih0 _ _ _ _)
      | (with_reducible exact ih1 _ _ _ _ _)
      | (with_reducible exact ih2 _ _ _ _ _ _ _)
      | (with_reducible exact ih3 _ _ _ _ _ _ _)
      | (with_reducible exact canopylaw1_Word.mono _ _ _ _)
      | (with_reducible exact canopylaw1_known.mono _)
      | (with_reducible exact word_Match.mono _ _ _)
      | (with_reducible exact LeO.refl _)
      | (with_reducible exact LeO.none _)
      | (with_reducible refine LeO.ite ?_ ?_)
      | (with_reducible refine LeO.bind ?_ (fun _ => ?_))
      | exact ih0 _ _ _ _
      | exact ih1 _ _ _ _ _
      | exact ih2 _ _ _ _ _ _ _
      | exact ih3 _ _ _ _ _ _ _
      | exact canopylaw1_Word.mono _ _ _ _
      | exact canopylaw1_known.mono _
      | exact word_Match.mono _ _ _
      | exact LeO.none _
      | refine LeO.ite ?_ ?_
      | refine LeO.bind ?_ (fun _ => ?_)
theorem canopylaw1_WordPartners.mono : ∀ a0 a1 k, LeO (canopylaw1_WordPartners.f k a0 a1) (canopylaw1_WordPartners.f (k + 1) a0 a1) := by
  intro a0 a1 k
  obtain ⟨ih0, ih1, ih2, ih3⟩ := canopylaw1_WordPartners.mono_l k
  unfold canopylaw1_WordPartners.f
  repeat' first
      | (with_reducible exact ih0 _ _ _ _)
      | (with_reducible exact ih1 _ _ _ _ _)
      | (with_reducible exact ih2 _ _ _ _ _ _ _)
      | (with_reducible exact ih3 _ _ _ _ _ _ _)
      | (with_reducible exact canopylaw1_Word.mono _ _ _ _)
      | (with_reducible exact canopylaw1_known.mono _)
      | (with_reducible exact word_Match.mono _ _ _)
      | (with_reducible exact LeO.refl _)
      | (with_reducible exact LeO.none _)
      | (with_reducible refine LeO.ite ?_ ?_)
      | (with_reducible refine LeO.bind ?_ (fun _ => ?_))
      | exact ih0 _ _ _ _
      | exact ih1 _ _ _ _ _
      | exact ih2 _ _ _ _ _ _ _
      | exact ih3 _ _ _ _ _ _ _
      | exact canopylaw1_Word.mono _ _ _ _
      | exact canopylaw1_known.mono _
      | exact word_Match.mono _ _ _
      | exact LeO.none _
      | refine LeO.ite ?_ ?_
      | refine LeO.bind ?_ (fun _ => ?_)
set_option maxHeartbeats 8000000 in
set_option maxRecDepth 100000 in
theorem canopylaw1_WordPartners.calls (k : Nat) (a0 : Int) (A1 : Option Addr) (c1 : Nat) (l1 : List Int) (r : Bool) (w : World) (hr1 : Kd.C (Kd.int .i64) w A1 l1.length l1) (hc1 : l1.length ≤ c1) (h : canopylaw1_WordPartners.f k a0 l1 = some r) :
    Calls Try.prog 7 #[.int .i64 a0, .slice A1 l1.length c1] w fun e w' => e = .returned (.bool r) ∧ Below w.heap.size w w' := by
  have HR1 := Aside0.mk hr1
  have HC1 := Aside0.mk hc1
  clear hr1 hc1
  have HB := Aside0.mk (Below.refl w.heap.size w)
  have H : ((canopylaw1_known.f k).bind fun t385 => (if t385 = true then ((canopylaw1_Syms.f a0 l1).bind fun t386 => ((canopylaw1_Word.f k t386 l1 40).bind fun t389 => ((word_Match.f k t386 t389).bind fun t392 => (if (t392.length : Int) = (t389.length : Int) then (canopylaw1_WordPartners.l0 k t386 t389 t392 0) else (some false))))) else (some false))) = some r := h
  clear h
  replace H := Option.bind_eq_some_iff.mp H
  obtain ⟨t385, A30, H⟩ := H
  replace H : (if t385 = true then ((canopylaw1_Syms.f a0 l1).bind fun t386 => ((canopylaw1_Word.f k t386 l1 40).bind fun t389 => ((word_Match.f k t386 t389).bind fun t392 => (if (t392.length : Int) = (t389.length : Int) then (canopylaw1_WordPartners.l0 k t386 t389 t392 0) else (some false))))) else (some false)) = some r := H
  have A3 := Aside0.mk A30
  clear A30
  by_cases c4 : t385 = true
  · subst c4
    have H1 : ((canopylaw1_Syms.f a0 l1).bind fun t386 => ((canopylaw1_Word.f k t386 l1 40).bind fun t389 => ((word_Match.f k t386 t389).bind fun t392 => (if (t392.length : Int) = (t389.length : Int) then (canopylaw1_WordPartners.l0 k t386 t389 t392 0) else (some false))))) = some r := by rw [if_pos rfl] at H; exact H
    clear H
    have H := H1
    clear H1
    replace H := Option.bind_eq_some_iff.mp H
    obtain ⟨t386, A50, H⟩ := H
    replace H : ((canopylaw1_Word.f k t386 l1 40).bind fun t389 => ((word_Match.f k t386 t389).bind fun t392 => (if (t392.length : Int) = (t389.length : Int) then (canopylaw1_WordPartners.l0 k t386 t389 t392 0) else (some false)))) = some r := H
    have A5 := Aside0.mk A50
    clear A50
    replace H := Option.bind_eq_some_iff.mp H
    obtain ⟨t389, A60, H⟩ := H
    replace H : ((word_Match.f k t386 t389).bind fun t392 => (if (t392.length : Int) = (t389.length : Int) then (canopylaw1_WordPartners.l0 k t386 t389 t392 0) else (some false))) = some r := H
    have A6 := Aside0.mk A60
    clear A60
    replace H := Option.bind_eq_some_iff.mp H
    obtain ⟨t392, A70, H⟩ := H
    replace H : (if (t392.length : Int) = (t389.length : Int) then (canopylaw1_WordPartners.l0 k t386 t389 t392 0) else (some false)) = some r := H
    have A7 := Aside0.mk A70
    clear A70
    by_cases c8 : (t392.length : Int) = (t389.length : Int)
    · rw [if_pos c8] at H
      have c8b0 : ((t392.length : Int) == (t389.length : Int)) = true := beq_iff_eq.mpr c8
      have c8b1 : ((t392.length : Int) != (t389.length : Int)) = false := bne_eq_false_iff_eq.mpr c8
      have c8b2 : (t392.length == t389.length) = true := by first | simpa using c8 | (simp at c8 ⊢; omega)
      clear c8
      have H' := Aside0.mk H
      clear H
      go_enter Try.func7, Try.ntmps7
      go_wp2_with (first | (go_at_call 13; (with_reducible refine (canopylaw1_known.calls k  true _ A3.out).mono ?_); rintro e w9 ⟨rfl, hb⟩; have n0_ := Aside0.mk (below_step (by repeat (first | (with_reducible first | exact HB.out | apply below_alloc | apply pw_below_drewN | apply below_drew1) | exact HB.out)) hb); clear HB; have HB := n0_; clear n0_; (try clear hb); (try clear hb2); (try clear hk); (try clear hi)) | (go_at_call 14; (with_reducible refine (canopylaw1_Syms.calls a0 _ _ l1 t386 _ ?side1 ?side2 A5.out).mono ?_); (case side1 => repeat (first | exact (Kd.C_below HR1.out HB.out) | (with_reducible refine Kd.C_alloc ?_ _) | (with_reducible refine Kd.C_drewN ?_ _) | (with_reducible refine Kd.C_drew ?_))); (case side2 => exact HC1.out); rintro e w10 ⟨v387, rfl, ho0, hb⟩; have n0_ := Aside0.mk (Kd.R_lower ho0 (below_size (by repeat (first | (with_reducible first | exact HB.out | apply below_alloc | apply pw_below_drewN | apply below_drew1) | exact HB.out)))); have n1_ := Aside0.mk (below_step (by repeat (first | (with_reducible first | exact HB.out | apply below_alloc | apply pw_below_drewN | apply below_drew1) | exact HB.out)) hb); clear HB; have HO388 := n0_; have HB := n1_; clear n0_ n1_; (try clear hb); (try clear hb2); (try clear hk); (try clear hi); (try clear ho0); obtain ⟨Ao11, co11, eo11⟩ := Kd.R_slice HO388.out; subst eo11) | (go_at_call 15; (with_reducible refine (canopylaw1_Word.calls k _ _ t386 _ _ l1 40 t389 _ ?side1 ?side2 ?side3 ?side4 A6.out).mono ?_); (case side1 => repeat (first | exact (Kd.R_reads' HO388.out).2.2 | (with_reducible refine Kd.C_alloc ?_ _) | (with_reducible refine Kd.C_drewN ?_ _) | (with_reducible refine Kd.C_drew ?_))); (case side2 => exact (Kd.R_reads' HO388.out).2.1); (case side3 => repeat (first | exact (Kd.C_below HR1.out HB.out) | (with_reducible refine Kd.C_alloc ?_ _) | (with_reducible refine Kd.C_drewN ?_ _) | (with_reducible refine Kd.C_drew ?_))); (case side4 => exact HC1.out); rintro e w12 ⟨v390, rfl, ho0, hb⟩; have n0_ := Aside0.mk (Kd.R_below (by (with_reducible repeat (first | apply Kd.R_alloc | apply Kd.R_drewN | apply Kd.R_drew)); exact HO388.out) hb); have n1_ := Aside0.mk (Kd.R_lower ho0 (below_size (by repeat (first | (with_reducible first | exact HB.out | apply below_alloc | apply pw_below_drewN | apply below_drew1) | exact HB.out)))); have n2_ := Aside0.mk (below_step (by repeat (first | (with_reducible first | exact HB.out | apply below_alloc | apply pw_below_drewN | apply below_drew1) | exact HB.out)) hb); clear HO388; clear HB; have HO388 := n0_; have HO391 := n1_; have HB := n2_; clear n0_ n1_ n2_; (try clear hb); (try clear hb2); (try clear hk); (try clear hi); (try clear ho0); obtain ⟨Ao13, co13, eo13⟩ := Kd.R_slice HO391.out; subst eo13) | (go_at_call 25; (with_reducible refine (word_Match.calls k _ _ t386 _ _ t389 t392 _ ?side1 ?side2 ?side3 ?side4 A7.out).mono ?_); (case side1 => repeat (first | exact (Kd.R_reads' HO388.out).2.2 | (with_reducible refine Kd.C_alloc ?_ _) | (with_reducible refine Kd.C_drewN ?_ _) | (with_reducible refine Kd.C_drew ?_))); (case side2 => exact (Kd.R_reads' HO388.out).2.1); (case side3 => repeat (first | exact (Kd.R_reads' HO391.out).2.2 | (with_reducible refine Kd.C_alloc ?_ _) | (with_reducible refine Kd.C_drewN ?_ _) | (with_reducible refine Kd.C_drew ?_))); (case side4 => exact (Kd.R_reads' HO391.out).2.1); rintro e w14 ⟨v393, rfl, ho0, hb⟩; have n0_ := Aside0.mk (Kd.R_below (by (with_reducible repeat (first | apply Kd.R_alloc | apply Kd.R_drewN | apply Kd.R_drew)); exact HO388.out) hb); have n1_ := Aside0.mk (Kd.R_elder' (by (with_reducible repeat (first | apply Kd.R_alloc | apply Kd.R_drewN | apply Kd.R_drew)); exact HO391.out) (Kd.R_base ho0) hb); have n2_ := Aside0.mk (Kd.R_lower (Kd.R_new' ho0 (Kd.R_lt (by (with_reducible repeat (first | apply Kd.R_alloc | apply Kd.R_drewN | apply Kd.R_drew)); exact HO391.out))) (below_size (by repeat (first | (with_reducible first | exact HB.out | apply below_alloc | apply pw_below_drewN | apply below_drew1) | exact HB.out)))); have n3_ := Aside0.mk (below_step (by repeat (first | (with_reducible first | exact HB.out | apply below_alloc | apply pw_below_drewN | apply below_drew1) | exact HB.out)) hb); clear HO388; clear HO391; clear HB; have HO388 := n0_; have HO391 := n1_; have HO394 := n2_; have HB := n3_; clear n0_ n1_ n2_ n3_; (try clear hb); (try clear hb2); (try clear hk); (try clear hi); (try clear ho0); obtain ⟨Ao15, co15, eo15⟩ := Kd.R_slice HO394.out; subst eo15))
      repeat (go_quiet (first | (go_at_call 13; (with_reducible refine (canopylaw1_known.calls k  true _ A3.out).mono ?_); rintro e w9 ⟨rfl, hb⟩; have n0_ := Aside0.mk (below_step (by repeat (first | (with_reducible first | exact HB.out | apply below_alloc | apply pw_below_drewN | apply below_drew1) | exact HB.out)) hb); clear HB; have HB := n0_; clear n0_; (try clear hb); (try clear hb2); (try clear hk); (try clear hi)) | (go_at_call 14; (with_reducible refine (canopylaw1_Syms.calls a0 _ _ l1 t386 _ ?side1 ?side2 A5.out).mono ?_); (case side1 => repeat (first | exact (Kd.C_below HR1.out HB.out) | (with_reducible refine Kd.C_alloc ?_ _) | (with_reducible refine Kd.C_drewN ?_ _) | (with_reducible refine Kd.C_drew ?_))); (case side2 => exact HC1.out); rintro e w10 ⟨v387, rfl, ho0, hb⟩; have n0_ := Aside0.mk (Kd.R_lower ho0 (below_size (by repeat (first | (with_reducible first | exact HB.out | apply below_alloc | apply pw_below_drewN | apply below_drew1) | exact HB.out)))); have n1_ := Aside0.mk (below_step (by repeat (first | (with_reducible first | exact HB.out | apply below_alloc | apply pw_below_drewN | apply below_drew1) | exact HB.out)) hb); clear HB; have HO388 := n0_; have HB := n1_; clear n0_ n1_; (try clear hb); (try clear hb2); (try clear hk); (try clear hi); (try clear ho0); obtain ⟨Ao11, co11, eo11⟩ := Kd.R_slice HO388.out; subst eo11) | (go_at_call 15; (with_reducible refine (canopylaw1_Word.calls k _ _ t386 _ _ l1 40 t389 _ ?side1 ?side2 ?side3 ?side4 A6.out).mono ?_); (case side1 => repeat (first | exact (Kd.R_reads' HO388.out).2.2 | (with_reducible refine Kd.C_alloc ?_ _) | (with_reducible refine Kd.C_drewN ?_ _) | (with_reducible refine Kd.C_drew ?_))); (case side2 => exact (Kd.R_reads' HO388.out).2.1); (case side3 => repeat (first | exact (Kd.C_below HR1.out HB.out) | (with_reducible refine Kd.C_alloc ?_ _) | (with_reducible refine Kd.C_drewN ?_ _) | (with_reducible refine Kd.C_drew ?_))); (case side4 => exact HC1.out); rintro e w12 ⟨v390, rfl, ho0, hb⟩; have n0_ := Aside0.mk (Kd.R_below (by (with_reducible repeat (first | apply Kd.R_alloc | apply Kd.R_drewN | apply Kd.R_drew)); exact HO388.out) hb); have n1_ := Aside0.mk (Kd.R_lower ho0 (below_size (by repeat (first | (with_reducible first | exact HB.out | apply below_alloc | apply pw_below_drewN | apply below_drew1) | exact HB.out)))); have n2_ := Aside0.mk (below_step (by repeat (first | (with_reducible first | exact HB.out | apply below_alloc | apply pw_below_drewN | apply below_drew1) | exact HB.out)) hb); clear HO388; clear HB; have HO388 := n0_; have HO391 := n1_; have HB := n2_; clear n0_ n1_ n2_; (try clear hb); (try clear hb2); (try clear hk); (try clear hi); (try clear ho0); obtain ⟨Ao13, co13, eo13⟩ := Kd.R_slice HO391.out; subst eo13) | (go_at_call 25; (with_reducible refine (word_Match.calls k _ _ t386 _ _ t389 t392 _ ?side1 ?side2 ?side3 ?side4 A7.out).mono ?_); (case side1 => repeat (first | exact (Kd.R_reads' HO388.out).2.2 | (with_reducible refine Kd.C_alloc ?_ _) | (with_reducible refine Kd.C_drewN ?_ _) | (with_reducible refine Kd.C_drew ?_))); (case side2 => exact (Kd.R_reads' HO388.out).2.1); (case side3 => repeat (first | exact (Kd.R_reads' HO391.out).2.2 | (with_reducible refine Kd.C_alloc ?_ _) | (with_reducible refine Kd.C_drewN ?_ _) | (with_reducible refine Kd.C_drew ?_))); (case side4 => exact (Kd.R_reads' HO391.out).2.1); rintro e w14 ⟨v393, rfl, ho0, hb⟩; have n0_ := Aside0.mk (Kd.R_below (by (with_reducible repeat (first | apply Kd.R_alloc | apply Kd.R_drewN | apply Kd.R_drew)); exact HO388.out) hb); have n1_ := Aside0.mk (Kd.R_elder' (by (with_reducible repeat (first | apply Kd.R_alloc | apply Kd.R_drewN | apply Kd.R_drew)); exact HO391.out) (Kd.R_base ho0) hb); have n2_ := Aside0.mk (Kd.R_lower (Kd.R_new' ho0 (Kd.R_lt (by (with_reducible repeat (first | apply Kd.R_alloc | apply Kd.R_drewN | apply Kd.R_drew)); exact HO391.out))) (below_size (by repeat (first | (with_reducible first | exact HB.out | apply below_alloc | apply pw_below_drewN | apply below_drew1) | exact HB.out)))); have n3_ := Aside0.mk (below_step (by repeat (first | (with_reducible first | exact HB.out | apply below_alloc | apply pw_below_drewN | apply below_drew1) | exact HB.out)) hb); clear HO388; clear HO391; clear HB; have HO388 := n0_; have HO391 := n1_; have HO394 := n2_; have HB := n3_; clear n0_ n1_ n2_ n3_; (try clear hb); (try clear hb2); (try clear hk); (try clear hi); (try clear ho0); obtain ⟨Ao15, co15, eo15⟩ := Kd.R_slice HO394.out; subst eo15)); try go_wp2_with (first | (go_at_call 13; (with_reducible refine (canopylaw1_known.calls k  true _ A3.out).mono ?_); rintro e w9 ⟨rfl, hb⟩; have n0_ := Aside0.mk (below_step (by repeat (first | (with_reducible first | exact HB.out | apply below_alloc | apply pw_below_drewN | apply below_drew1) | exact HB.out)) hb); clear HB; have HB := n0_; clear n0_; (try clear hb); (try clear hb2); (try clear hk); (try clear hi)) | (go_at_call 14; (with_reducible refine (canopylaw1_Syms.calls a0 _ _ l1 t386 _ ?side1 ?side2 A5.out).mono ?_); (case side1 => repeat (first | exact (Kd.C_below HR1.out HB.out) | (with_reducible refine Kd.C_alloc ?_ _) | (with_reducible refine Kd.C_drewN ?_ _) | (with_reducible refine Kd.C_drew ?_))); (case side2 => exact HC1.out); rintro e w10 ⟨v387, rfl, ho0, hb⟩; have n0_ := Aside0.mk (Kd.R_lower ho0 (below_size (by repeat (first | (with_reducible first | exact HB.out | apply below_alloc | apply pw_below_drewN | apply below_drew1) | exact HB.out)))); have n1_ := Aside0.mk (below_step (by repeat (first | (with_reducible first | exact HB.out | apply below_alloc | apply pw_below_drewN | apply below_drew1) | exact HB.out)) hb); clear HB; have HO388 := n0_; have HB := n1_; clear n0_ n1_; (try clear hb); (try clear hb2); (try clear hk); (try clear hi); (try clear ho0); obtain ⟨Ao11, co11, eo11⟩ := Kd.R_slice HO388.out; subst eo11) | (go_at_call 15; (with_reducible refine (canopylaw1_Word.calls k _ _ t386 _ _ l1 40 t389 _ ?side1 ?side2 ?side3 ?side4 A6.out).mono ?_); (case side1 => repeat (first | exact (Kd.R_reads' HO388.out).2.2 | (with_reducible refine Kd.C_alloc ?_ _) | (with_reducible refine Kd.C_drewN ?_ _) | (with_reducible refine Kd.C_drew ?_))); (case side2 => exact (Kd.R_reads' HO388.out).2.1); (case side3 => repeat (first | exact (Kd.C_below HR1.out HB.out) | (with_reducible refine Kd.C_alloc ?_ _) | (with_reducible refine Kd.C_drewN ?_ _) | (with_reducible refine Kd.C_drew ?_))); (case side4 => exact HC1.out); rintro e w12 ⟨v390, rfl, ho0, hb⟩; have n0_ := Aside0.mk (Kd.R_below (by (with_reducible repeat (first | apply Kd.R_alloc | apply Kd.R_drewN | apply Kd.R_drew)); exact HO388.out) hb); have n1_ := Aside0.mk (Kd.R_lower ho0 (below_size (by repeat (first | (with_reducible first | exact HB.out | apply below_alloc | apply pw_below_drewN | apply below_drew1) | exact HB.out)))); have n2_ := Aside0.mk (below_step (by repeat (first | (with_reducible first | exact HB.out | apply below_alloc | apply pw_below_drewN | apply below_drew1) | exact HB.out)) hb); clear HO388; clear HB; have HO388 := n0_; have HO391 := n1_; have HB := n2_; clear n0_ n1_ n2_; (try clear hb); (try clear hb2); (try clear hk); (try clear hi); (try clear ho0); obtain ⟨Ao13, co13, eo13⟩ := Kd.R_slice HO391.out; subst eo13) | (go_at_call 25; (with_reducible refine (word_Match.calls k _ _ t386 _ _ t389 t392 _ ?side1 ?side2 ?side3 ?side4 A7.out).mono ?_); (case side1 => repeat (first | exact (Kd.R_reads' HO388.out).2.2 | (with_reducible refine Kd.C_alloc ?_ _) | (with_reducible refine Kd.C_drewN ?_ _) | (with_reducible refine Kd.C_drew ?_))); (case side2 => exact (Kd.R_reads' HO388.out).2.1); (case side3 => repeat (first | exact (Kd.R_reads' HO391.out).2.2 | (with_reducible refine Kd.C_alloc ?_ _) | (with_reducible refine Kd.C_drewN ?_ _) | (with_reducible refine Kd.C_drew ?_))); (case side4 => exact (Kd.R_reads' HO391.out).2.1); rintro e w14 ⟨v393, rfl, ho0, hb⟩; have n0_ := Aside0.mk (Kd.R_below (by (with_reducible repeat (first | apply Kd.R_alloc | apply Kd.R_drewN | apply Kd.R_drew)); exact HO388.out) hb); have n1_ := Aside0.mk (Kd.R_elder' (by (with_reducible repeat (first | apply Kd.R_alloc | apply Kd.R_drewN | apply Kd.R_drew)); exact HO391.out) (Kd.R_base ho0) hb); have n2_ := Aside0.mk (Kd.R_lower (Kd.R_new' ho0 (Kd.R_lt (by (with_reducible repeat (first | apply Kd.R_alloc | apply Kd.R_drewN | apply Kd.R_drew)); exact HO391.out))) (below_size (by repeat (first | (with_reducible first | exact HB.out | apply below_alloc | apply pw_below_drewN | apply below_drew1) | exact HB.out)))); have n3_ := Aside0.mk (below_step (by repeat (first | (with_reducible first | exact HB.out | apply below_alloc | apply pw_below_drewN | apply below_drew1) | exact HB.out)) hb); clear HO388; clear HO391; clear HB; have HO388 := n0_; have HO391 := n1_; have HO394 := n2_; have HB := n3_; clear n0_ n1_ n2_ n3_; (try clear hb); (try clear hb2); (try clear hk); (try clear hi); (try clear ho0); obtain ⟨Ao15, co15, eo15⟩ := Kd.R_slice HO394.out; subst eo15)))
      go_loopg [8] k (fun kq v8 w' => ∃ (x8_1 : Int), v8 = .int .i64 x8_1 ∧ Aside0 (canopylaw1_WordPartners.l0 kq t386 t389 t392 x8_1 = some r) ∧ Aside0 (kq ≤ k) ∧ Aside0 (Kd.R k40 40 w' w.heap.size (fun _ => True) (.slice Ao11 t386.length co11) t386) ∧ Aside0 (Kd.R (Kd.int .i64) 3 w' w.heap.size (fun k_ => some k_ ≠ ((.slice Ao15 t392.length co15) : Value).ownBlock) (.slice Ao13 t389.length co13) t389) ∧ Aside0 (Kd.R (Kd.int .i64) 3 w' w.heap.size (fun k_ => some k_ ≠ ((.slice Ao13 t389.length co13) : Value).ownBlock) (.slice Ao15 t392.length co15) t392) ∧ Aside0 (Below w.heap.size w w'))
      case atStart => exact ⟨(0), (by first | rfl | (simp; done) | (simp [*]; done)), H', ⟨Nat.le_refl _⟩, ⟨by (with_reducible repeat (first | apply Kd.R_alloc | apply Kd.R_drewN | apply Kd.R_drew)); exact HO388.out⟩, ⟨by (with_reducible repeat (first | apply Kd.R_alloc | apply Kd.R_drewN | apply Kd.R_drew)); exact Kd.R_mono HO391.out (fun _ hk => hk.2)⟩, ⟨by (with_reducible repeat (first | apply Kd.R_alloc | apply Kd.R_drewN | apply Kd.R_drew)); exact Kd.R_mono HO394.out (fun _ hk => hk.2)⟩, ⟨by repeat (first | (with_reducible first | exact HB.out | apply below_alloc | apply pw_below_drewN | apply below_drew1) | exact HB.out)⟩⟩
      case round =>
        clear H'
        try clear c1
        try clear p2
        try clear c4
        try clear c7
        try clear c8
        try clear c8b0
        try clear c8b1
        try clear c8b2
        obtain ⟨x8_1, rfl, HA, HK1, HO_5, HO_6, HO_7, HB⟩ := hrel
        cases gk with
        | zero => exact absurd HA.out (by simp [canopylaw1_WordPartners.l0])
        | succ k1 =>
          have H := HA.out
          clear HA
          simp only [canopylaw1_WordPartners.l0] at H
          by_cases c16 : x8_1 < (t392.length : Int)
          · rw [if_pos c16] at H
            have c16b0 : decide (x8_1 < (t392.length : Int)) = true := decide_eq_true c16
            clear c16
            by_cases c17 : 0 ≤ x8_1
            · rw [if_pos c17] at H
              have c17b0 : decide (0 ≤ x8_1) = true := decide_eq_true c17
              clear c17
              by_cases c18 : (rd t392 x8_1) = (-1)
              · rw [if_pos c18] at H
                have c18b0 : ((rd t392 x8_1) == (-1)) = true := beq_iff_eq.mpr c18
                have c18b1 : ((rd t392 x8_1) != (-1)) = false := bne_eq_false_iff_eq.mpr c18
                clear c18
                have H' := Aside0.mk H
                clear H
                have p395 : 0 ≤ (x8_1 : Int) := of_decide_eq_true (by first | (with_reducible assumption) | assumption)
                have q395 : x8_1 < (t392.length : Int) := of_decide_eq_true (by first | (with_reducible assumption) | assumption)
                obtain ⟨ad395, e395, hx395_0⟩ := Kd.at_int (Kd.R_reads' HO_7.out).2.2 x8_1 p395 q395
                cases e395
                replace p395 := eq_true p395
                replace q395 := eq_true q395
                go_wp2
                repeat (go_quiet (fail); try go_wp2)
                go_roundg k1
                case measure => have := HK1.out; omega
                case rel => exact ⟨(wrap64 (x8_1 + 1)), (by first | rfl | (simp; done) | (simp [*]; done)), H', ⟨by have := HK1.out; omega⟩, ⟨by (with_reducible repeat (first | apply Kd.R_alloc | apply Kd.R_drewN | apply Kd.R_drew)); exact HO_5.out⟩, ⟨by (with_reducible repeat (first | apply Kd.R_alloc | apply Kd.R_drewN | apply Kd.R_drew)); exact HO_6.out⟩, ⟨by (with_reducible repeat (first | apply Kd.R_alloc | apply Kd.R_drewN | apply Kd.R_drew)); exact HO_7.out⟩, ⟨by repeat (first | (with_reducible first | exact HB.out | apply below_alloc | apply pw_below_drewN | apply below_drew1) | exact HB.out)⟩⟩
              · rw [if_neg c18] at H
                have c18b0 : ((rd t392 x8_1) == (-1)) = false := beq_eq_false_iff_ne.mpr c18
                have c18b1 : ((rd t392 x8_1) != (-1)) = true := bne_iff_ne.mpr c18
                have HC19 := Aside0.mk H
                clear H
                have p395 : 0 ≤ (x8_1 : Int) := of_decide_eq_true (by first | (with_reducible assumption) | assumption)
                have q395 : x8_1 < (t392.length : Int) := of_decide_eq_true (by first | (with_reducible assumption) | assumption)
                obtain ⟨ad395, e395, hx395_0⟩ := Kd.at_int (Kd.R_reads' HO_7.out).2.2 x8_1 p395 q395
                cases e395
                replace p395 := eq_true p395
                replace q395 := eq_true q395
                go_upto_region 12 with (fail)
                repeat (go_quiet (fail); go_upto_region 12 with (fail))
                go_cut [71] (fun v71 wc => ∃ (kq : Nat) (x71_18 : Bool), v71 = .bool x71_18 ∧ Aside0 (canopylaw1_WordPartners.j1 kq t386 t389 t392 x8_1 x71_18 = some r) ∧ Aside0 (kq ≤ k1) ∧ Aside0 (Kd.R k40 40 wc w.heap.size (fun _ => True) (.slice Ao11 t386.length co11) t386) ∧ Aside0 (Kd.R (Kd.int .i64) 3 wc w.heap.size (fun k_ => some k_ ≠ ((.slice (some ad395) t392.length co15) : Value).ownBlock) (.slice Ao13 t389.length co13) t389) ∧ Aside0 (Kd.R (Kd.int .i64) 3 wc w.heap.size (fun k_ => some k_ ≠ ((.slice Ao13 t389.length co13) : Value).ownBlock) (.slice (some ad395) t392.length co15) t392) ∧ Aside0 (Below w.heap.size w wc))
                case first =>
                  have H := HC19.out
                  clear HC19
                  by_cases c20 : (rd t392 x8_1) < 0
                  · rw [if_pos c20] at H
                    have c20b0 : decide ((rd t392 x8_1) < 0) = true := decide_eq_true c20
                    clear c20
                    (first | rw [c20b0] | (simp only [i64_w, i32_w]; rw [c20b0]) | skip)
                    have H' := Aside0.mk H
                    clear H
                    have p396 : 0 ≤ (x8_1 : Int) := of_decide_eq_true (by first | (with_reducible assumption) | assumption)
                    have q396 : x8_1 < (t392.length : Int) := of_decide_eq_true (by first | (with_reducible assumption) | assumption)
                    obtain ⟨ad396, e396, hx396_0⟩ := Kd.at_int (Kd.R_reads' HO_7.out).2.2 x8_1 p396 q396
                    obtain rfl : ad395 = ad396 := (by injection e396)
                    replace p396 := eq_true p396
                    replace q396 := eq_true q396
                    go_wp2
                    repeat (go_quiet (fail); try go_wp2)
                    go_meet
                    case rel => exact ⟨_, (true), (by first | rfl | (simp; done) | (simp [*]; done)), H', ⟨by have := HK1.out; first | omega | exact Nat.le_refl _⟩, ⟨by (with_reducible repeat (first | apply Kd.R_alloc | apply Kd.R_drewN | apply Kd.R_drew)); exact HO_5.out⟩, ⟨by (with_reducible repeat (first | apply Kd.R_alloc | apply Kd.R_drewN | apply Kd.R_drew)); exact HO_6.out⟩, ⟨by (with_reducible repeat (first | apply Kd.R_alloc | apply Kd.R_drewN | apply Kd.R_drew)); exact HO_7.out⟩, ⟨by repeat (first | (with_reducible first | exact HB.out | apply below_alloc | apply pw_below_drewN | apply below_drew1) | exact HB.out)⟩⟩
                  · rw [if_neg c20] at H
                    have c20b0 : decide ((rd t392 x8_1) < 0) = false := decide_eq_false c20
                    clear c20
                    (first | rw [c20b0] | (simp only [i64_w, i32_w]; rw [c20b0]) | skip)
                    by_cases c21 : (rd t392 x8_1) ≥ (t392.length : Int)
                    · rw [if_pos c21] at H
                      have c21b0 : decide ((t392.length : Int) ≤ (rd t392 x8_1)) = true := decide_eq_true c21
                      clear c21
                      have H' := Aside0.mk H
                      clear H
                      have p396 : 0 ≤ (x8_1 : Int) := of_decide_eq_true (by first | (with_reducible assumption) | assumption)
                      have q396 : x8_1 < (t392.length : Int) := of_decide_eq_true (by first | (with_reducible assumption) | assumption)
                      obtain ⟨ad396, e396, hx396_0⟩ := Kd.at_int (Kd.R_reads' HO_7.out).2.2 x8_1 p396 q396
                      obtain rfl : ad395 = ad396 := (by injection e396)
                      replace p396 := eq_true p396
                      replace q396 := eq_true q396
                      have p397 : 0 ≤ (x8_1 : Int) := of_decide_eq_true (by first | (with_reducible assumption) | assumption)
                      have q397 : x8_1 < (t392.length : Int) := of_decide_eq_true (by first | (with_reducible assumption) | assumption)
                      obtain ⟨ad397, e397, hx397_0⟩ := Kd.at_int (Kd.R_reads' HO_7.out).2.2 x8_1 p397 q397
                      obtain rfl : ad395 = ad397 := (by injection e397)
                      replace p397 := eq_true p397
                      replace q397 := eq_true q397
                      go_wp2
                      repeat (go_quiet (fail); try go_wp2)
                      go_meet
                      case rel => exact ⟨_, (true), (by first | rfl | (simp; done) | (simp [*]; done)), H', ⟨by have := HK1.out; first | omega | exact Nat.le_refl _⟩, ⟨by (with_reducible repeat (first | apply Kd.R_alloc | apply Kd.R_drewN | apply Kd.R_drew)); exact HO_5.out⟩, ⟨by (with_reducible repeat (first | apply Kd.R_alloc | apply Kd.R_drewN | apply Kd.R_drew)); exact HO_6.out⟩, ⟨by (with_reducible repeat (first | apply Kd.R_alloc | apply Kd.R_drewN | apply Kd.R_drew)); exact HO_7.out⟩, ⟨by repeat (first | (with_reducible first | exact HB.out | apply below_alloc | apply pw_below_drewN | apply below_drew1) | exact HB.out)⟩⟩
                    · rw [if_neg c21] at H
                      have c21b0 : decide ((t392.length : Int) ≤ (rd t392 x8_1)) = false := decide_eq_false c21
                      clear c21
                      by_cases c22 : 0 ≤ (rd t392 x8_1)
                      · rw [if_pos c22] at H
                        have c22b0 : decide (0 ≤ (rd t392 x8_1)) = true := decide_eq_true c22
                        clear c22
                        by_cases c23 : (rd t392 x8_1) < (t392.length : Int)
                        · rw [if_pos c23] at H
                          have c23b0 : decide ((rd t392 x8_1) < (t392.length : Int)) = true := decide_eq_true c23
                          clear c23
                          by_cases c24 : (rd t392 (rd t392 x8_1)) = x8_1
                          · rw [if_pos c24] at H
                            have c24b0 : ((rd t392 (rd t392 x8_1)) == x8_1) = true := beq_iff_eq.mpr c24
                            have c24b1 : ((rd t392 (rd t392 x8_1)) != x8_1) = false := bne_eq_false_iff_eq.mpr c24
                            clear c24
                            have H' := Aside0.mk H
                            clear H
                            have p396 : 0 ≤ (x8_1 : Int) := of_decide_eq_true (by first | (with_reducible assumption) | assumption)
                            have q396 : x8_1 < (t392.length : Int) := of_decide_eq_true (by first | (with_reducible assumption) | assumption)
                            obtain ⟨ad396, e396, hx396_0⟩ := Kd.at_int (Kd.R_reads' HO_7.out).2.2 x8_1 p396 q396
                            obtain rfl : ad395 = ad396 := (by injection e396)
                            replace p396 := eq_true p396
                            replace q396 := eq_true q396
                            have p397 : 0 ≤ (x8_1 : Int) := of_decide_eq_true (by first | (with_reducible assumption) | assumption)
                            have q397 : x8_1 < (t392.length : Int) := of_decide_eq_true (by first | (with_reducible assumption) | assumption)
                            obtain ⟨ad397, e397, hx397_0⟩ := Kd.at_int (Kd.R_reads' HO_7.out).2.2 x8_1 p397 q397
                            obtain rfl : ad395 = ad397 := (by injection e397)
                            replace p397 := eq_true p397
                            replace q397 := eq_true q397
                            have p398 : 0 ≤ (x8_1 : Int) := of_decide_eq_true (by first | (with_reducible assumption) | assumption)
                            have q398 : x8_1 < (t392.length : Int) := of_decide_eq_true (by first | (with_reducible assumption) | assumption)
                            obtain ⟨ad398, e398, hx398_0⟩ := Kd.at_int (Kd.R_reads' HO_7.out).2.2 x8_1 p398 q398
                            obtain rfl : ad395 = ad398 := (by injection e398)
                            replace p398 := eq_true p398
                            replace q398 := eq_true q398
                            have p399 : 0 ≤ ((rd t392 x8_1) : Int) := of_decide_eq_true (by first | (with_reducible assumption) | assumption)
                            have q399 : (rd t392 x8_1) < (t392.length : Int) := of_decide_eq_true (by first | (with_reducible assumption) | assumption)
                            obtain ⟨ad399, e399, hx399_0⟩ := Kd.at_int (Kd.R_reads' HO_7.out).2.2 (rd t392 x8_1) p399 q399
                            obtain rfl : ad395 = ad399 := (by injection e399)
                            replace p399 := eq_true p399
                            replace q399 := eq_true q399
                            have p400 : 0 ≤ (x8_1 : Int) := of_decide_eq_true (by first | (with_reducible assumption) | assumption)
                            have q400 : x8_1 < (t392.length : Int) := of_decide_eq_true (by first | (with_reducible assumption) | assumption)
                            obtain ⟨ad400, e400, hx400_0⟩ := Kd.at_int (Kd.R_reads' HO_7.out).2.2 x8_1 p400 q400
                            obtain rfl : ad395 = ad400 := (by injection e400)
                            replace p400 := eq_true p400
                            replace q400 := eq_true q400
                            go_wp2
                            repeat (go_quiet (fail); try go_wp2)
                            go_meet
                            case rel => exact ⟨_, (((rd t392 x8_1) == x8_1)), (by first | rfl | (simp; done) | (simp [*]; done)), H', ⟨by have := HK1.out; first | omega | exact Nat.le_refl _⟩, ⟨by (with_reducible repeat (first | apply Kd.R_alloc | apply Kd.R_drewN | apply Kd.R_drew)); exact HO_5.out⟩, ⟨by (with_reducible repeat (first | apply Kd.R_alloc | apply Kd.R_drewN | apply Kd.R_drew)); exact HO_6.out⟩, ⟨by (with_reducible repeat (first | apply Kd.R_alloc | apply Kd.R_drewN | apply Kd.R_drew)); exact HO_7.out⟩, ⟨by repeat (first | (with_reducible first | exact HB.out | apply below_alloc | apply pw_below_drewN | apply below_drew1) | exact HB.out)⟩⟩
                          · rw [if_neg c24] at H
                            have c24b0 : ((rd t392 (rd t392 x8_1)) == x8_1) = false := beq_eq_false_iff_ne.mpr c24
                            have c24b1 : ((rd t392 (rd t392 x8_1)) != x8_1) = true := bne_iff_ne.mpr c24
                            have H' := Aside0.mk H
                            clear H
                            have p396 : 0 ≤ (x8_1 : Int) := of_decide_eq_true (by first | (with_reducible assumption) | assumption)
                            have q396 : x8_1 < (t392.length : Int) := of_decide_eq_true (by first | (with_reducible assumption) | assumption)
                            obtain ⟨ad396, e396, hx396_0⟩ := Kd.at_int (Kd.R_reads' HO_7.out).2.2 x8_1 p396 q396
                            obtain rfl : ad395 = ad396 := (by injection e396)
                            replace p396 := eq_true p396
                            replace q396 := eq_true q396
                            have p397 : 0 ≤ (x8_1 : Int) := of_decide_eq_true (by first | (with_reducible assumption) | assumption)
                            have q397 : x8_1 < (t392.length : Int) := of_decide_eq_true (by first | (with_reducible assumption) | assumption)
                            obtain ⟨ad397, e397, hx397_0⟩ := Kd.at_int (Kd.R_reads' HO_7.out).2.2 x8_1 p397 q397
                            obtain rfl : ad395 = ad397 := (by injection e397)
                            replace p397 := eq_true p397
                            replace q397 := eq_true q397
                            have p398 : 0 ≤ (x8_1 : Int) := of_decide_eq_true (by first | (with_reducible assumption) | assumption)
                            have q398 : x8_1 < (t392.length : Int) := of_decide_eq_true (by first | (with_reducible assumption) | assumption)
                            obtain ⟨ad398, e398, hx398_0⟩ := Kd.at_int (Kd.R_reads' HO_7.out).2.2 x8_1 p398 q398
                            obtain rfl : ad395 = ad398 := (by injection e398)
                            replace p398 := eq_true p398
                            replace q398 := eq_true q398
                            have p399 : 0 ≤ ((rd t392 x8_1) : Int) := of_decide_eq_true (by first | (with_reducible assumption) | assumption)
                            have q399 : (rd t392 x8_1) < (t392.length : Int) := of_decide_eq_true (by first | (with_reducible assumption) | assumption)
                            obtain ⟨ad399, e399, hx399_0⟩ := Kd.at_int (Kd.R_reads' HO_7.out).2.2 (rd t392 x8_1) p399 q399
                            obtain rfl : ad395 = ad399 := (by injection e399)
                            replace p399 := eq_true p399
                            replace q399 := eq_true q399
                            go_wp2
                            repeat (go_quiet (fail); try go_wp2)
                            go_meet
                            case rel => exact ⟨_, (true), (by first | rfl | (simp; done) | (simp [*]; done)), H', ⟨by have := HK1.out; first | omega | exact Nat.le_refl _⟩, ⟨by (with_reducible repeat (first | apply Kd.R_alloc | apply Kd.R_drewN | apply Kd.R_drew)); exact HO_5.out⟩, ⟨by (with_reducible repeat (first | apply Kd.R_alloc | apply Kd.R_drewN | apply Kd.R_drew)); exact HO_6.out⟩, ⟨by (with_reducible repeat (first | apply Kd.R_alloc | apply Kd.R_drewN | apply Kd.R_drew)); exact HO_7.out⟩, ⟨by repeat (first | (with_reducible first | exact HB.out | apply below_alloc | apply pw_below_drewN | apply below_drew1) | exact HB.out)⟩⟩
                        · rw [if_neg c23] at H
                          exact absurd H (by simp)
                      · rw [if_neg c22] at H
                        exact absurd H (by simp)
                case rest =>
                  clear HC19
                  try clear c1
                  try clear c2
                  try clear p2
                  try clear p3
                  try clear q3
                  try clear hx3
                  try clear c4
                  try clear p4
                  try clear q4
                  try clear hx4
                  try clear p6
                  try clear c7
                  try clear c8
                  try clear c8b0
                  try clear c8b1
                  try clear c8b2
                  try clear c16
                  try clear c16b0
                  try clear c17
                  try clear c17b0
                  try clear c18
                  try clear c18b0
                  try clear c18b1
                  try clear c20
                  try clear c20b0
                  try clear c21
                  try clear c21b0
                  try clear c22
                  try clear c22b0
                  try clear c23
                  try clear c23b0
                  try clear c24
                  try clear c24b0
                  try clear c24b1
                  try clear hx395_0
                  try clear hx396_0
                  try clear hx397_0
                  try clear hx398_0
                  try clear hx399_0
                  try clear hx400_0
                  try clear p2
                  try clear p395
                  try clear p396
                  try clear p397
                  try clear p398
                  try clear p399
                  try clear p400
                  try clear q395
                  try clear q396
                  try clear q397
                  try clear q398
                  try clear q399
                  try clear q400
                  obtain ⟨kq, x71_18, rfl, HA, HJ18, HO_5, HO_6, HO_7, HB⟩ := hcut
                  cases kq with
                  | zero => exact absurd HA.out (by simp [canopylaw1_WordPartners.j1])
                  | succ kj18 =>
                    have H := HA.out
                    clear HA
                    simp only [canopylaw1_WordPartners.j1] at H
                    by_cases c25 : x71_18 = true
                    · subst c25
                      have H1 : (some false) = some r := by rw [if_pos rfl] at H; exact H
                      clear H
                      have H := H1
                      clear H1
                      obtain rfl := Option.some.inj H
                      go_wp2
                      repeat (go_quiet (fail); try go_wp2)
                      go_ret
                      exact ⟨by first | rfl | (simp [errW_none, errW_some] <;> rfl) | (simp [*, errW_none, errW_some] <;> rfl), by repeat (first | (with_reducible first | exact HB.out | apply below_alloc | apply pw_below_drewN | apply below_drew1) | exact HB.out)⟩
                    · replace c25 := Bool.eq_false_iff.mpr c25
                      subst c25
                      have H1 : (if 0 ≤ x8_1 then (if x8_1 < (t392.length : Int) then (if 0 ≤ (mn x8_1 (rd t392 x8_1)) then (if (mn x8_1 (rd t392 x8_1)) < (t389.length : Int) then (if 0 ≤ (rd t389 (mn x8_1 (rd t392 x8_1))) then (if (rd t389 (mn x8_1 (rd t392 x8_1))) < (t386.length : Int) then (if ((rd_T40 t386 (rd t389 (mn x8_1 (rd t392 x8_1)))).f1) = 1 then (if 0 ≤ (mx x8_1 (rd t392 x8_1)) then (if (mx x8_1 (rd t392 x8_1)) < (t389.length : Int) then (if 0 ≤ (rd t389 (mx x8_1 (rd t392 x8_1))) then (if (rd t389 (mx x8_1 (rd t392 x8_1))) < (t386.length : Int) then (canopylaw1_WordPartners.j2 kj18 t386 t389 t392 x8_1 (mn x8_1 (rd t392 x8_1)) (mx x8_1 (rd t392 x8_1)) (((rd_T40 t386 (rd t389 (mx x8_1 (rd t392 x8_1)))).f1) != 2)) else (none)) else (none)) else (none)) else (none)) else (canopylaw1_WordPartners.j2 kj18 t386 t389 t392 x8_1 (mn x8_1 (rd t392 x8_1)) (mx x8_1 (rd t392 x8_1)) true)) else (none)) else (none)) else (none)) else (none)) else (none)) else (none)) = some r := by rw [if_neg (show ¬ (false = true) by decide)] at H; exact H
                      clear H
                      have H := H1
                      clear H1
                      by_cases c26 : 0 ≤ x8_1
                      · rw [if_pos c26] at H
                        have c26b0 : decide (0 ≤ x8_1) = true := decide_eq_true c26
                        clear c26
                        by_cases c27 : x8_1 < (t392.length : Int)
                        · rw [if_pos c27] at H
                          have c27b0 : decide (x8_1 < (t392.length : Int)) = true := decide_eq_true c27
                          clear c27
                          obtain ⟨ji28, hji28⟩ : ∃ j_ : Int, (mn x8_1 (rd t392 x8_1)) = j_ := ⟨_, rfl⟩
                          replace H : (if 0 ≤ (ji28) then (if (ji28) < (t389.length : Int) then (if 0 ≤ (rd t389 (ji28)) then (if (rd t389 (ji28)) < (t386.length : Int) then (if ((rd_T40 t386 (rd t389 (ji28))).f1) = 1 then (if 0 ≤ (mx x8_1 (rd t392 x8_1)) then (if (mx x8_1 (rd t392 x8_1)) < (t389.length : Int) then (if 0 ≤ (rd t389 (mx x8_1 (rd t392 x8_1))) then (if (rd t389 (mx x8_1 (rd t392 x8_1))) < (t386.length : Int) then (canopylaw1_WordPartners.j2 kj18 t386 t389 t392 x8_1 ji28 (mx x8_1 (rd t392 x8_1)) (((rd_T40 t386 (rd t389 (mx x8_1 (rd t392 x8_1)))).f1) != 2)) else (none)) else (none)) else (none)) else (none)) else (canopylaw1_WordPartners.j2 kj18 t386 t389 t392 x8_1 ji28 (mx x8_1 (rd t392 x8_1)) true)) else (none)) else (none)) else (none)) else (none)) = some r := by first | (rw [hji28] at H; exact H) | (simp only [hji28] at H ⊢; exact H)
                          have hji28_ : (if (rd t392 x8_1) < x8_1 then (rd t392 x8_1) else x8_1) = ji28 := hji28
                          obtain ⟨ji29, hji29⟩ : ∃ j_ : Int, (mx x8_1 (rd t392 x8_1)) = j_ := ⟨_, rfl⟩
                          replace H : (if 0 ≤ (ji28) then (if (ji28) < (t389.length : Int) then (if 0 ≤ (rd t389 (ji28)) then (if (rd t389 (ji28)) < (t386.length : Int) then (if ((rd_T40 t386 (rd t389 (ji28))).f1) = 1 then (if 0 ≤ (ji29) then (if (ji29) < (t389.length : Int) then (if 0 ≤ (rd t389 (ji29)) then (if (rd t389 (ji29)) < (t386.length : Int) then (canopylaw1_WordPartners.j2 kj18 t386 t389 t392 x8_1 ji28 ji29 (((rd_T40 t386 (rd t389 (ji29))).f1) != 2)) else (none)) else (none)) else (none)) else (none)) else (canopylaw1_WordPartners.j2 kj18 t386 t389 t392 x8_1 ji28 ji29 true)) else (none)) else (none)) else (none)) else (none)) = some r := by first | (rw [hji29] at H; exact H) | (simp only [hji29] at H ⊢; exact H)
                          have hji29_ : (if x8_1 < (rd t392 x8_1) then (rd t392 x8_1) else x8_1) = ji29 := hji29
                          have HC30 := Aside0.mk H
                          clear H
                          have p401 : 0 ≤ (x8_1 : Int) := of_decide_eq_true (by first | (with_reducible assumption) | assumption)
                          have q401 : x8_1 < (t392.length : Int) := of_decide_eq_true (by first | (with_reducible assumption) | assumption)
                          obtain ⟨ad401, e401, hx401_0⟩ := Kd.at_int (Kd.R_reads' HO_7.out).2.2 x8_1 p401 q401
                          obtain rfl : ad395 = ad401 := (by injection e401)
                          replace p401 := eq_true p401
                          replace q401 := eq_true q401
                          have p402 : 0 ≤ (x8_1 : Int) := of_decide_eq_true (by first | (with_reducible assumption) | assumption)
                          have q402 : x8_1 < (t392.length : Int) := of_decide_eq_true (by first | (with_reducible assumption) | assumption)
                          obtain ⟨ad402, e402, hx402_0⟩ := Kd.at_int (Kd.R_reads' HO_7.out).2.2 x8_1 p402 q402
                          obtain rfl : ad395 = ad402 := (by injection e402)
                          replace p402 := eq_true p402
                          replace q402 := eq_true q402
                          go_upto_region 15 with (fail)
                          repeat (go_quiet (fail); go_upto_region 15 with (fail))
                          go_cut [103] (fun v103 wc => ∃ (kq : Nat) (x103_29 : Bool), v103 = .bool x103_29 ∧ Aside0 (canopylaw1_WordPartners.j2 kq t386 t389 t392 x8_1 ji28 ji29 x103_29 = some r) ∧ Aside0 (kq ≤ kj18) ∧ Aside0 (Kd.R k40 40 wc w.heap.size (fun _ => True) (.slice Ao11 t386.length co11) t386) ∧ Aside0 (Kd.R (Kd.int .i64) 3 wc w.heap.size (fun k_ => some k_ ≠ ((.slice (some ad395) t392.length co15) : Value).ownBlock) (.slice Ao13 t389.length co13) t389) ∧ Aside0 (Kd.R (Kd.int .i64) 3 wc w.heap.size (fun k_ => some k_ ≠ ((.slice Ao13 t389.length co13) : Value).ownBlock) (.slice (some ad395) t392.length co15) t392) ∧ Aside0 (Below w.heap.size w wc))
                          case first =>
                            have H := HC30.out
                            clear HC30
                            by_cases c31 : 0 ≤ (ji28)
                            · rw [if_pos c31] at H
                              have c31b0 : decide (0 ≤ (ji28)) = true := decide_eq_true c31
                              clear c31
                              (first | rw [c31b0] | (simp only [i64_w, i32_w]; rw [c31b0]) | skip)
                              by_cases c32 : (ji28) < (t389.length : Int)
                              · rw [if_pos c32] at H
                                have c32b0 : decide ((ji28) < (t389.length : Int)) = true := decide_eq_true c32
                                clear c32
                                by_cases c33 : 0 ≤ (rd t389 (ji28))
                                · rw [if_pos c33] at H
                                  have c33b0 : decide (0 ≤ (rd t389 (ji28))) = true := decide_eq_true c33
                                  clear c33
                                  by_cases c34 : (rd t389 (ji28)) < (t386.length : Int)
                                  · rw [if_pos c34] at H
                                    have c34b0 : decide ((rd t389 (ji28)) < (t386.length : Int)) = true := decide_eq_true c34
                                    clear c34
                                    by_cases c35 : ((rd_T40 t386 (rd t389 (ji28))).f1) = 1
                                    · rw [if_pos c35] at H
                                      have c35b0 : (((rd_T40 t386 (rd t389 (ji28))).f1) == 1) = true := beq_iff_eq.mpr c35
                                      have c35b1 : (((rd_T40 t386 (rd t389 (ji28))).f1) != 1) = false := bne_eq_false_iff_eq.mpr c35
                                      clear c35
                                      by_cases c36 : 0 ≤ (ji29)
                                      · rw [if_pos c36] at H
                                        have c36b0 : decide (0 ≤ (ji29)) = true := decide_eq_true c36
                                        clear c36
                                        by_cases c37 : (ji29) < (t389.length : Int)
                                        · rw [if_pos c37] at H
                                          have c37b0 : decide ((ji29) < (t389.length : Int)) = true := decide_eq_true c37
                                          clear c37
                                          by_cases c38 : 0 ≤ (rd t389 (ji29))
                                          · rw [if_pos c38] at H
                                            have c38b0 : decide (0 ≤ (rd t389 (ji29))) = true := decide_eq_true c38
                                            clear c38
                                            by_cases c39 : (rd t389 (ji29)) < (t386.length : Int)
                                            · rw [if_pos c39] at H
                                              have c39b0 : decide ((rd t389 (ji29)) < (t386.length : Int)) = true := decide_eq_true c39
                                              clear c39
                                              have H' := Aside0.mk H
                                              clear H
                                              have p403 : 0 ≤ ((ji28) : Int) := of_decide_eq_true (by first | (with_reducible assumption) | assumption)
                                              have q403 : (ji28) < (t389.length : Int) := of_decide_eq_true (by first | (with_reducible assumption) | assumption)
                                              obtain ⟨ad403, e403, hx403_0⟩ := Kd.at_int (Kd.R_reads' HO_6.out).2.2 (ji28) p403 q403
                                              cases e403
                                              replace p403 := eq_true p403
                                              replace q403 := eq_true q403
                                              have p404 : 0 ≤ ((rd t389 (ji28)) : Int) := of_decide_eq_true (by first | (with_reducible assumption) | assumption)
                                              have q404 : (rd t389 (ji28)) < (t386.length : Int) := of_decide_eq_true (by first | (with_reducible assumption) | assumption)
                                              obtain ⟨ad404, e404, hx404_0, hx404_1⟩ := at_T40 (Kd.R_reads' HO_5.out).2.2 (rd t389 (ji28)) p404 q404
                                              cases e404
                                              replace p404 := eq_true p404
                                              replace q404 := eq_true q404
                                              have p405 : 0 ≤ ((ji29) : Int) := of_decide_eq_true (by first | (with_reducible assumption) | assumption)
                                              have q405 : (ji29) < (t389.length : Int) := of_decide_eq_true (by first | (with_reducible assumption) | assumption)
                                              obtain ⟨ad405, e405, hx405_0⟩ := Kd.at_int (Kd.R_reads' HO_6.out).2.2 (ji29) p405 q405
                                              obtain rfl : ad403 = ad405 := (by injection e405)
                                              replace p405 := eq_true p405
                                              replace q405 := eq_true q405
                                              have p406 : 0 ≤ ((rd t389 (ji29)) : Int) := of_decide_eq_true (by first | (with_reducible assumption) | assumption)
                                              have q406 : (rd t389 (ji29)) < (t386.length : Int) := of_decide_eq_true (by first | (with_reducible assumption) | assumption)
                                              obtain ⟨ad406, e406, hx406_0, hx406_1⟩ := at_T40 (Kd.R_reads' HO_5.out).2.2 (rd t389 (ji29)) p406 q406
                                              obtain rfl : ad404 = ad406 := (by injection e406)
                                              replace p406 := eq_true p406
                                              replace q406 := eq_true q406
                                              go_wp2
                                              repeat (go_quiet (fail); try go_wp2)
                                              go_meet
                                              case rel => exact ⟨_, ((((rd_T40 t386 (rd t389 (ji29))).f1) != 2)), (by first | rfl | (simp; done) | (simp only [← hji29] <;> (first | rfl | simp)) | (simp [*]; done)), H', ⟨by have := HK1.out; have := HJ18.out; first | omega | exact Nat.le_refl _⟩, ⟨by (with_reducible repeat (first | apply Kd.R_alloc | apply Kd.R_drewN | apply Kd.R_drew)); exact HO_5.out⟩, ⟨by (with_reducible repeat (first | apply Kd.R_alloc | apply Kd.R_drewN | apply Kd.R_drew)); exact HO_6.out⟩, ⟨by (with_reducible repeat (first | apply Kd.R_alloc | apply Kd.R_drewN | apply Kd.R_drew)); exact HO_7.out⟩, ⟨by repeat (first | (with_reducible first | exact HB.out | apply below_alloc | apply pw_below_drewN | apply below_drew1) | exact HB.out)⟩⟩
                                            · rw [if_neg c39] at H
                                              exact absurd H (by simp)
                                          · rw [if_neg c38] at H
                                            exact absurd H (by simp)
                                        · rw [if_neg c37] at H
                                          exact absurd H (by simp)
                                      · rw [if_neg c36] at H
                                        exact absurd H (by simp)
                                    · rw [if_neg c35] at H
                                      have c35b0 : (((rd_T40 t386 (rd t389 (ji28))).f1) == 1) = false := beq_eq_false_iff_ne.mpr c35
                                      have c35b1 : (((rd_T40 t386 (rd t389 (ji28))).f1) != 1) = true := bne_iff_ne.mpr c35
                                      have H' := Aside0.mk H
                                      clear H
                                      have p403 : 0 ≤ ((ji28) : Int) := of_decide_eq_true (by first | (with_reducible assumption) | assumption)
                                      have q403 : (ji28) < (t389.length : Int) := of_decide_eq_true (by first | (with_reducible assumption) | assumption)
                                      obtain ⟨ad403, e403, hx403_0⟩ := Kd.at_int (Kd.R_reads' HO_6.out).2.2 (ji28) p403 q403
                                      cases e403
                                      replace p403 := eq_true p403
                                      replace q403 := eq_true q403
                                      have p404 : 0 ≤ ((rd t389 (ji28)) : Int) := of_decide_eq_true (by first | (with_reducible assumption) | assumption)
                                      have q404 : (rd t389 (ji28)) < (t386.length : Int) := of_decide_eq_true (by first | (with_reducible assumption) | assumption)
                                      obtain ⟨ad404, e404, hx404_0, hx404_1⟩ := at_T40 (Kd.R_reads' HO_5.out).2.2 (rd t389 (ji28)) p404 q404
                                      cases e404
                                      replace p404 := eq_true p404
                                      replace q404 := eq_true q404
                                      go_wp2
                                      repeat (go_quiet (fail); try go_wp2)
                                      go_meet
                                      case rel => exact ⟨_, (true), (by first | rfl | (simp; done) | (simp [*]; done)), H', ⟨by have := HK1.out; have := HJ18.out; first | omega | exact Nat.le_refl _⟩, ⟨by (with_reducible repeat (first | apply Kd.R_alloc | apply Kd.R_drewN | apply Kd.R_drew)); exact HO_5.out⟩, ⟨by (with_reducible repeat (first | apply Kd.R_alloc | apply Kd.R_drewN | apply Kd.R_drew)); exact HO_6.out⟩, ⟨by (with_reducible repeat (first | apply Kd.R_alloc | apply Kd.R_drewN | apply Kd.R_drew)); exact HO_7.out⟩, ⟨by repeat (first | (with_reducible first | exact HB.out | apply below_alloc | apply pw_below_drewN | apply below_drew1) | exact HB.out)⟩⟩
                                  · rw [if_neg c34] at H
                                    exact absurd H (by simp)
                                · rw [if_neg c33] at H
                                  exact absurd H (by simp)
                              · rw [if_neg c32] at H
                                exact absurd H (by simp)
                            · rw [if_neg c31] at H
                              exact absurd H (by simp)
                          case rest =>
                            clear HC30
                            try clear c1
                            try clear c2
                            try clear p2
                            try clear c3
                            try clear p3
                            try clear q3
                            try clear hx3
                            try clear c4
                            try clear p4
                            try clear q4
                            try clear hx4
                            try clear p6
                            try clear c7
                            try clear c8
                            try clear c8b0
                            try clear c8b1
                            try clear c8b2
                            try clear c16
                            try clear c16b0
                            try clear c17
                            try clear c17b0
                            try clear c18
                            try clear c18b0
                            try clear c18b1
                            try clear c20
                            try clear c20b0
                            try clear c21
                            try clear c21b0
                            try clear c22
                            try clear c22b0
                            try clear c23
                            try clear c23b0
                            try clear c24
                            try clear c24b0
                            try clear c24b1
                            try clear c25
                            try clear c26
                            try clear c26b0
                            try clear c27
                            try clear c27b0
                            try clear c31
                            try clear c31b0
                            try clear c32
                            try clear c32b0
                            try clear c33
                            try clear c33b0
                            try clear c34
                            try clear c34b0
                            try clear c35
                            try clear c35b0
                            try clear c35b1
                            try clear c36
                            try clear c36b0
                            try clear c37
                            try clear c37b0
                            try clear c38
                            try clear c38b0
                            try clear c39
                            try clear c39b0
                            try clear p39
                            try clear q39
                            try clear hx39
                            try clear hx395_0
                            try clear hx396_0
                            try clear hx397_0
                            try clear hx398_0
                            try clear hx399_0
                            try clear hx400_0
                            try clear hx401_0
                            try clear hx402_0
                            try clear hx403_0
                            try clear hx404_0
                            try clear hx404_1
                            try clear hx405_0
                            try clear hx406_0
                            try clear hx406_1
                            try clear p2
                            try clear p3
                            try clear p395
                            try clear p396
                            try clear p397
                            try clear p398
                            try clear p399
                            try clear p4
                            try clear p400
                            try clear p401
                            try clear p402
                            try clear p403
                            try clear p404
                            try clear p405
                            try clear p406
                            try clear p6
                            try clear q3
                            try clear q395
                            try clear q396
                            try clear q397
                            try clear q398
                            try clear q399
                            try clear q4
                            try clear q400
                            try clear q401
                            try clear q402
                            try clear q403
                            try clear q404
                            try clear q405
                            try clear q406
                            obtain ⟨kq, x103_29, rfl, HA, HJ29, HO_5, HO_6, HO_7, HB⟩ := hcut
                            cases kq with
                            | zero => exact absurd HA.out (by simp [canopylaw1_WordPartners.j2])
                            | succ kj29 =>
                              have H := HA.out
                              clear HA
                              simp only [canopylaw1_WordPartners.j2] at H
                              by_cases c40 : x103_29 = true
                              · subst c40
                                have H1 : (some false) = some r := by rw [if_pos rfl] at H; exact H
                                clear H
                                have H := H1
                                clear H1
                                obtain rfl := Option.some.inj H
                                go_wp2
                                repeat (go_quiet (fail); try go_wp2)
                                go_ret
                                exact ⟨by first | rfl | (simp [errW_none, errW_some] <;> rfl) | (simp only [← hji28, ← hji29]; first | rfl | (simp [errW_none, errW_some] <;> rfl)) | (simp [*, errW_none, errW_some] <;> rfl), by repeat (first | (with_reducible first | exact HB.out | apply below_alloc | apply pw_below_drewN | apply below_drew1) | exact HB.out)⟩
                              · replace c40 := Bool.eq_false_iff.mpr c40
                                subst c40
                                have H1 : (canopylaw1_WordPartners.l1 kj29 t386 t389 t392 x8_1 ji28 ji29 (wrap64 (ji28 + 1))) = some r := by rw [if_neg (show ¬ (false = true) by decide)] at H; exact H
                                clear H
                                have H := H1
                                clear H1
                                have H' := Aside0.mk H
                                clear H
                                go_wp2
                                repeat (go_quiet (fail); try go_wp2)
                                go_loopg [11] kj29 (fun kq v11 w' => ∃ (x11_4 : Int), v11 = .int .i64 x11_4 ∧ Aside0 (canopylaw1_WordPartners.l1 kq t386 t389 t392 x8_1 ji28 ji29 x11_4 = some r) ∧ Aside0 (kq ≤ kj29) ∧ Aside0 (Kd.R k40 40 w' w.heap.size (fun _ => True) (.slice Ao11 t386.length co11) t386) ∧ Aside0 (Kd.R (Kd.int .i64) 3 w' w.heap.size (fun k_ => some k_ ≠ ((.slice (some ad395) t392.length co15) : Value).ownBlock) (.slice Ao13 t389.length co13) t389) ∧ Aside0 (Kd.R (Kd.int .i64) 3 w' w.heap.size (fun k_ => some k_ ≠ ((.slice Ao13 t389.length co13) : Value).ownBlock) (.slice (some ad395) t392.length co15) t392) ∧ Aside0 (Below w.heap.size w w'))
                                case atStart => exact ⟨(wrap64 (ji28 + 1)), (by first | rfl | (simp; done) | (simp only [← hji28] <;> (first | rfl | simp)) | (simp [*]; done)), H', ⟨Nat.le_refl _⟩, ⟨by (with_reducible repeat (first | apply Kd.R_alloc | apply Kd.R_drewN | apply Kd.R_drew)); exact HO_5.out⟩, ⟨by (with_reducible repeat (first | apply Kd.R_alloc | apply Kd.R_drewN | apply Kd.R_drew)); exact HO_6.out⟩, ⟨by (with_reducible repeat (first | apply Kd.R_alloc | apply Kd.R_drewN | apply Kd.R_drew)); exact HO_7.out⟩, ⟨by repeat (first | (with_reducible first | exact HB.out | apply below_alloc | apply pw_below_drewN | apply below_drew1) | exact HB.out)⟩⟩
                                case round =>
                                  clear H'
                                  try clear c1
                                  try clear c2
                                  try clear p2
                                  try clear c3
                                  try clear p3
                                  try clear q3
                                  try clear hx3
                                  try clear c4
                                  try clear p4
                                  try clear q4
                                  try clear hx4
                                  try clear p6
                                  try clear c7
                                  try clear c8
                                  try clear c8b0
                                  try clear c8b1
                                  try clear c8b2
                                  try clear c16
                                  try clear c16b0
                                  try clear c17
                                  try clear c17b0
                                  try clear c18
                                  try clear c18b0
                                  try clear c18b1
                                  try clear c20
                                  try clear c20b0
                                  try clear c21
                                  try clear c21b0
                                  try clear c22
                                  try clear c22b0
                                  try clear c23
                                  try clear c23b0
                                  try clear c24
                                  try clear c24b0
                                  try clear c24b1
                                  try clear c25
                                  try clear c26
                                  try clear c26b0
                                  try clear c27
                                  try clear c27b0
                                  try clear c31
                                  try clear c31b0
                                  try clear c32
                                  try clear c32b0
                                  try clear c33
                                  try clear c33b0
                                  try clear c34
                                  try clear c34b0
                                  try clear c35
                                  try clear c35b0
                                  try clear c35b1
                                  try clear c36
                                  try clear c36b0
                                  try clear c37
                                  try clear c37b0
                                  try clear c38
                                  try clear c38b0
                                  try clear c39
                                  try clear c39b0
                                  try clear p39
                                  try clear q39
                                  try clear hx39
                                  try clear c40
                                  try clear p40
                                  try clear q40
                                  try clear hx40
                                  try clear hx395_0
                                  try clear hx396_0
                                  try clear hx397_0
                                  try clear hx398_0
                                  try clear hx399_0
                                  try clear hx400_0
                                  try clear hx401_0
                                  try clear hx402_0
                                  try clear hx403_0
                                  try clear hx404_0
                                  try clear hx404_1
                                  try clear hx405_0
                                  try clear hx406_0
                                  try clear hx406_1
                                  try clear p2
                                  try clear p3
                                  try clear p39
                                  try clear p395
                                  try clear p396
                                  try clear p397
                                  try clear p398
                                  try clear p399
                                  try clear p4
                                  try clear p400
                                  try clear p401
                                  try clear p402
                                  try clear p403
                                  try clear p404
                                  try clear p405
                                  try clear p406
                                  try clear p6
                                  try clear q3
                                  try clear q39
                                  try clear q395
                                  try clear q396
                                  try clear q397
                                  try clear q398
                                  try clear q399
                                  try clear q4
                                  try clear q400
                                  try clear q401
                                  try clear q402
                                  try clear q403
                                  try clear q404
                                  try clear q405
                                  try clear q406
                                  obtain ⟨x11_4, rfl, HA, HK4, HO_5, HO_6, HO_7, HB⟩ := hrel
                                  cases gk with
                                  | zero => exact absurd HA.out (by simp [canopylaw1_WordPartners.l1])
                                  | succ k4 =>
                                    have H := HA.out
                                    clear HA
                                    simp only [canopylaw1_WordPartners.l1] at H
                                    by_cases c41 : x11_4 < ji29
                                    · rw [if_pos c41] at H
                                      have c41b0 : decide (x11_4 < ji29) = true := decide_eq_true c41
                                      clear c41
                                      by_cases c42 : 0 ≤ x11_4
                                      · rw [if_pos c42] at H
                                        have c42b0 : decide (0 ≤ x11_4) = true := decide_eq_true c42
                                        clear c42
                                        by_cases c43 : x11_4 < (t392.length : Int)
                                        · rw [if_pos c43] at H
                                          have c43b0 : decide (x11_4 < (t392.length : Int)) = true := decide_eq_true c43
                                          clear c43
                                          by_cases c44 : (rd t392 x11_4) = (-1)
                                          · rw [if_pos c44] at H
                                            have c44b0 : ((rd t392 x11_4) == (-1)) = true := beq_iff_eq.mpr c44
                                            have c44b1 : ((rd t392 x11_4) != (-1)) = false := bne_eq_false_iff_eq.mpr c44
                                            clear c44
                                            by_cases c45 : x11_4 < (t389.length : Int)
                                            · rw [if_pos c45] at H
                                              have c45b0 : decide (x11_4 < (t389.length : Int)) = true := decide_eq_true c45
                                              clear c45
                                              by_cases c46 : 0 ≤ (rd t389 x11_4)
                                              · rw [if_pos c46] at H
                                                have c46b0 : decide (0 ≤ (rd t389 x11_4)) = true := decide_eq_true c46
                                                clear c46
                                                by_cases c47 : (rd t389 x11_4) < (t386.length : Int)
                                                · rw [if_pos c47] at H
                                                  have c47b0 : decide ((rd t389 x11_4) < (t386.length : Int)) = true := decide_eq_true c47
                                                  clear c47
                                                  by_cases c48 : ((rd_T40 t386 (rd t389 x11_4)).f1) = 3
                                                  · rw [if_pos c48] at H
                                                    have c48b0 : (((rd_T40 t386 (rd t389 x11_4)).f1) == 3) = true := beq_iff_eq.mpr c48
                                                    have c48b1 : (((rd_T40 t386 (rd t389 x11_4)).f1) != 3) = false := bne_eq_false_iff_eq.mpr c48
                                                    clear c48
                                                    have H' := Aside0.mk H
                                                    clear H
                                                    have p407 : 0 ≤ (x11_4 : Int) := of_decide_eq_true (by first | (with_reducible assumption) | assumption)
                                                    have q407 : x11_4 < (t392.length : Int) := of_decide_eq_true (by first | (with_reducible assumption) | assumption)
                                                    obtain ⟨ad407, e407, hx407_0⟩ := Kd.at_int (Kd.R_reads' HO_7.out).2.2 x11_4 p407 q407
                                                    obtain rfl : ad395 = ad407 := (by injection e407)
                                                    replace p407 := eq_true p407
                                                    replace q407 := eq_true q407
                                                    have p408 : 0 ≤ (x11_4 : Int) := of_decide_eq_true (by first | (with_reducible assumption) | assumption)
                                                    have q408 : x11_4 < (t389.length : Int) := of_decide_eq_true (by first | (with_reducible assumption) | assumption)
                                                    obtain ⟨ad408, e408, hx408_0⟩ := Kd.at_int (Kd.R_reads' HO_6.out).2.2 x11_4 p408 q408
                                                    cases e408
                                                    replace p408 := eq_true p408
                                                    replace q408 := eq_true q408
                                                    have p409 : 0 ≤ ((rd t389 x11_4) : Int) := of_decide_eq_true (by first | (with_reducible assumption) | assumption)
                                                    have q409 : (rd t389 x11_4) < (t386.length : Int) := of_decide_eq_true (by first | (with_reducible assumption) | assumption)
                                                    obtain ⟨ad409, e409, hx409_0, hx409_1⟩ := at_T40 (Kd.R_reads' HO_5.out).2.2 (rd t389 x11_4) p409 q409
                                                    cases e409
                                                    replace p409 := eq_true p409
                                                    replace q409 := eq_true q409
                                                    have p410 : 0 ≤ (x11_4 : Int) := of_decide_eq_true (by first | (with_reducible assumption) | assumption)
                                                    have q410 : x11_4 < (t392.length : Int) := of_decide_eq_true (by first | (with_reducible assumption) | assumption)
                                                    obtain ⟨ad410, e410, hx410_0⟩ := Kd.at_int (Kd.R_reads' HO_7.out).2.2 x11_4 p410 q410
                                                    obtain rfl : ad395 = ad410 := (by injection e410)
                                                    replace p410 := eq_true p410
                                                    replace q410 := eq_true q410
                                                    go_wp2
                                                    repeat (go_quiet (fail); try go_wp2)
                                                    go_roundg k4
                                                    case measure => have := HK1.out; have := HJ18.out; have := HJ29.out; have := HK4.out; omega
                                                    case rel => exact ⟨(wrap64 (x11_4 + 1)), (by first | rfl | (simp; done) | (simp [*]; done)), H', ⟨by have := HK1.out; have := HJ18.out; have := HJ29.out; have := HK4.out; omega⟩, ⟨by (with_reducible repeat (first | apply Kd.R_alloc | apply Kd.R_drewN | apply Kd.R_drew)); exact HO_5.out⟩, ⟨by (with_reducible repeat (first | apply Kd.R_alloc | apply Kd.R_drewN | apply Kd.R_drew)); exact HO_6.out⟩, ⟨by (with_reducible repeat (first | apply Kd.R_alloc | apply Kd.R_drewN | apply Kd.R_drew)); exact HO_7.out⟩, ⟨by repeat (first | (with_reducible first | exact HB.out | apply below_alloc | apply pw_below_drewN | apply below_drew1) | exact HB.out)⟩⟩
                                                  · rw [if_neg c48] at H
                                                    have c48b0 : (((rd_T40 t386 (rd t389 x11_4)).f1) == 3) = false := beq_eq_false_iff_ne.mpr c48
                                                    have c48b1 : (((rd_T40 t386 (rd t389 x11_4)).f1) != 3) = true := bne_iff_ne.mpr c48
                                                    obtain rfl := Option.some.inj H
                                                    have p407 : 0 ≤ (x11_4 : Int) := of_decide_eq_true (by first | (with_reducible assumption) | assumption)
                                                    have q407 : x11_4 < (t392.length : Int) := of_decide_eq_true (by first | (with_reducible assumption) | assumption)
                                                    obtain ⟨ad407, e407, hx407_0⟩ := Kd.at_int (Kd.R_reads' HO_7.out).2.2 x11_4 p407 q407
                                                    obtain rfl : ad395 = ad407 := (by injection e407)
                                                    replace p407 := eq_true p407
                                                    replace q407 := eq_true q407
                                                    have p408 : 0 ≤ (x11_4 : Int) := of_decide_eq_true (by first | (with_reducible assumption) | assumption)
                                                    have q408 : x11_4 < (t389.length : Int) := of_decide_eq_true (by first | (with_reducible assumption) | assumption)
                                                    obtain ⟨ad408, e408, hx408_0⟩ := Kd.at_int (Kd.R_reads' HO_6.out).2.2 x11_4 p408 q408
                                                    cases e408
                                                    replace p408 := eq_true p408
                                                    replace q408 := eq_true q408
                                                    have p409 : 0 ≤ ((rd t389 x11_4) : Int) := of_decide_eq_true (by first | (with_reducible assumption) | assumption)
                                                    have q409 : (rd t389 x11_4) < (t386.length : Int) := of_decide_eq_true (by first | (with_reducible assumption) | assumption)
                                                    obtain ⟨ad409, e409, hx409_0, hx409_1⟩ := at_T40 (Kd.R_reads' HO_5.out).2.2 (rd t389 x11_4) p409 q409
                                                    cases e409
                                                    replace p409 := eq_true p409
                                                    replace q409 := eq_true q409
                                                    go_wp2
                                                    repeat (go_quiet (fail); try go_wp2)
                                                    go_ret
                                                    exact ⟨by first | rfl | (simp [errW_none, errW_some] <;> rfl) | (simp only [← hji28, ← hji29]; first | rfl | (simp [errW_none, errW_some] <;> rfl)) | (simp [*, errW_none, errW_some] <;> rfl), by repeat (first | (with_reducible first | exact HB.out | apply below_alloc | apply pw_below_drewN | apply below_drew1) | exact HB.out)⟩
                                                · rw [if_neg c47] at H
                                                  exact absurd H (by simp)
                                              · rw [if_neg c46] at H
                                                exact absurd H (by simp)
                                            · rw [if_neg c45] at H
                                              exact absurd H (by simp)
                                          · rw [if_neg c44] at H
                                            have c44b0 : ((rd t392 x11_4) == (-1)) = false := beq_eq_false_iff_ne.mpr c44
                                            have c44b1 : ((rd t392 x11_4) != (-1)) = true := bne_iff_ne.mpr c44
                                            by_cases c49 : (rd t392 x11_4) < ji28
                                            · rw [if_pos c49] at H
                                              have c49b0 : decide ((rd t392 x11_4) < ji28) = true := decide_eq_true c49
                                              clear c49
                                              obtain rfl := Option.some.inj H
                                              have p407 : 0 ≤ (x11_4 : Int) := of_decide_eq_true (by first | (with_reducible assumption) | assumption)
                                              have q407 : x11_4 < (t392.length : Int) := of_decide_eq_true (by first | (with_reducible assumption) | assumption)
                                              obtain ⟨ad407, e407, hx407_0⟩ := Kd.at_int (Kd.R_reads' HO_7.out).2.2 x11_4 p407 q407
                                              obtain rfl : ad395 = ad407 := (by injection e407)
                                              replace p407 := eq_true p407
                                              replace q407 := eq_true q407
                                              have p411 : 0 ≤ (x11_4 : Int) := of_decide_eq_true (by first | (with_reducible assumption) | assumption)
                                              have q411 : x11_4 < (t392.length : Int) := of_decide_eq_true (by first | (with_reducible assumption) | assumption)
                                              obtain ⟨ad411, e411, hx411_0⟩ := Kd.at_int (Kd.R_reads' HO_7.out).2.2 x11_4 p411 q411
                                              obtain rfl : ad395 = ad411 := (by injection e411)
                                              replace p411 := eq_true p411
                                              replace q411 := eq_true q411
                                              have p412 : 0 ≤ (x11_4 : Int) := of_decide_eq_true (by first | (with_reducible assumption) | assumption)
                                              have q412 : x11_4 < (t392.length : Int) := of_decide_eq_true (by first | (with_reducible assumption) | assumption)
                                              obtain ⟨ad412, e412, hx412_0⟩ := Kd.at_int (Kd.R_reads' HO_7.out).2.2 x11_4 p412 q412
                                              obtain rfl : ad395 = ad412 := (by injection e412)
                                              replace p412 := eq_true p412
                                              replace q412 := eq_true q412
                                              go_wp2
                                              repeat (go_quiet (fail); try go_wp2)
                                              go_ret
                                              exact ⟨by first | rfl | (simp [errW_none, errW_some] <;> rfl) | (simp only [← hji28, ← hji29]; first | rfl | (simp [errW_none, errW_some] <;> rfl)) | (simp [*, errW_none, errW_some] <;> rfl), by repeat (first | (with_reducible first | exact HB.out | apply below_alloc | apply pw_below_drewN | apply below_drew1) | exact HB.out)⟩
                                            · rw [if_neg c49] at H
                                              have c49b0 : decide ((rd t392 x11_4) < ji28) = false := decide_eq_false c49
                                              clear c49
                                              by_cases c50 : (rd t392 x11_4) > ji29
                                              · rw [if_pos c50] at H
                                                have c50b0 : decide (ji29 < (rd t392 x11_4)) = true := decide_eq_true c50
                                                clear c50
                                                obtain rfl := Option.some.inj H
                                                have p407 : 0 ≤ (x11_4 : Int) := of_decide_eq_true (by first | (with_reducible assumption) | assumption)
                                                have q407 : x11_4 < (t392.length : Int) := of_decide_eq_true (by first | (with_reducible assumption) | assumption)
                                                obtain ⟨ad407, e407, hx407_0⟩ := Kd.at_int (Kd.R_reads' HO_7.out).2.2 x11_4 p407 q407
                                                obtain rfl : ad395 = ad407 := (by injection e407)
                                                replace p407 := eq_true p407
                                                replace q407 := eq_true q407
                                                have p411 : 0 ≤ (x11_4 : Int) := of_decide_eq_true (by first | (with_reducible assumption) | assumption)
                                                have q411 : x11_4 < (t392.length : Int) := of_decide_eq_true (by first | (with_reducible assumption) | assumption)
                                                obtain ⟨ad411, e411, hx411_0⟩ := Kd.at_int (Kd.R_reads' HO_7.out).2.2 x11_4 p411 q411
                                                obtain rfl : ad395 = ad411 := (by injection e411)
                                                replace p411 := eq_true p411
                                                replace q411 := eq_true q411
                                                have p412 : 0 ≤ (x11_4 : Int) := of_decide_eq_true (by first | (with_reducible assumption) | assumption)
                                                have q412 : x11_4 < (t392.length : Int) := of_decide_eq_true (by first | (with_reducible assumption) | assumption)
                                                obtain ⟨ad412, e412, hx412_0⟩ := Kd.at_int (Kd.R_reads' HO_7.out).2.2 x11_4 p412 q412
                                                obtain rfl : ad395 = ad412 := (by injection e412)
                                                replace p412 := eq_true p412
                                                replace q412 := eq_true q412
                                                have p413 : 0 ≤ (x11_4 : Int) := of_decide_eq_true (by first | (with_reducible assumption) | assumption)
                                                have q413 : x11_4 < (t392.length : Int) := of_decide_eq_true (by first | (with_reducible assumption) | assumption)
                                                obtain ⟨ad413, e413, hx413_0⟩ := Kd.at_int (Kd.R_reads' HO_7.out).2.2 x11_4 p413 q413
                                                obtain rfl : ad395 = ad413 := (by injection e413)
                                                replace p413 := eq_true p413
                                                replace q413 := eq_true q413
                                                go_wp2
                                                repeat (go_quiet (fail); try go_wp2)
                                                go_ret
                                                exact ⟨by first | rfl | (simp [errW_none, errW_some] <;> rfl) | (simp only [← hji28, ← hji29]; first | rfl | (simp [errW_none, errW_some] <;> rfl)) | (simp [*, errW_none, errW_some] <;> rfl), by repeat (first | (with_reducible first | exact HB.out | apply below_alloc | apply pw_below_drewN | apply below_drew1) | exact HB.out)⟩
                                              · rw [if_neg c50] at H
                                                have c50b0 : decide (ji29 < (rd t392 x11_4)) = false := decide_eq_false c50
                                                clear c50
                                                have H' := Aside0.mk H
                                                clear H
                                                have p407 : 0 ≤ (x11_4 : Int) := of_decide_eq_true (by first | (with_reducible assumption) | assumption)
                                                have q407 : x11_4 < (t392.length : Int) := of_decide_eq_true (by first | (with_reducible assumption) | assumption)
                                                obtain ⟨ad407, e407, hx407_0⟩ := Kd.at_int (Kd.R_reads' HO_7.out).2.2 x11_4 p407 q407
                                                obtain rfl : ad395 = ad407 := (by injection e407)
                                                replace p407 := eq_true p407
                                                replace q407 := eq_true q407
                                                have p411 : 0 ≤ (x11_4 : Int) := of_decide_eq_true (by first | (with_reducible assumption) | assumption)
                                                have q411 : x11_4 < (t392.length : Int) := of_decide_eq_true (by first | (with_reducible assumption) | assumption)
                                                obtain ⟨ad411, e411, hx411_0⟩ := Kd.at_int (Kd.R_reads' HO_7.out).2.2 x11_4 p411 q411
                                                obtain rfl : ad395 = ad411 := (by injection e411)
                                                replace p411 := eq_true p411
                                                replace q411 := eq_true q411
                                                have p412 : 0 ≤ (x11_4 : Int) := of_decide_eq_true (by first | (with_reducible assumption) | assumption)
                                                have q412 : x11_4 < (t392.length : Int) := of_decide_eq_true (by first | (with_reducible assumption) | assumption)
                                                obtain ⟨ad412, e412, hx412_0⟩ := Kd.at_int (Kd.R_reads' HO_7.out).2.2 x11_4 p412 q412
                                                obtain rfl : ad395 = ad412 := (by injection e412)
                                                replace p412 := eq_true p412
                                                replace q412 := eq_true q412
                                                have p413 : 0 ≤ (x11_4 : Int) := of_decide_eq_true (by first | (with_reducible assumption) | assumption)
                                                have q413 : x11_4 < (t392.length : Int) := of_decide_eq_true (by first | (with_reducible assumption) | assumption)
                                                obtain ⟨ad413, e413, hx413_0⟩ := Kd.at_int (Kd.R_reads' HO_7.out).2.2 x11_4 p413 q413
                                                obtain rfl : ad395 = ad413 := (by injection e413)
                                                replace p413 := eq_true p413
                                                replace q413 := eq_true q413
                                                go_wp2
                                                repeat (go_quiet (fail); try go_wp2)
                                                go_roundg k4
                                                case measure => have := HK1.out; have := HJ18.out; have := HJ29.out; have := HK4.out; omega
                                                case rel => exact ⟨(wrap64 (x11_4 + 1)), (by first | rfl | (simp; done) | (simp [*]; done)), H', ⟨by have := HK1.out; have := HJ18.out; have := HJ29.out; have := HK4.out; omega⟩, ⟨by (with_reducible repeat (first | apply Kd.R_alloc | apply Kd.R_drewN | apply Kd.R_drew)); exact HO_5.out⟩, ⟨by (with_reducible repeat (first | apply Kd.R_alloc | apply Kd.R_drewN | apply Kd.R_drew)); exact HO_6.out⟩, ⟨by (with_reducible repeat (first | apply Kd.R_alloc | apply Kd.R_drewN | apply Kd.R_drew)); exact HO_7.out⟩, ⟨by repeat (first | (with_reducible first | exact HB.out | apply below_alloc | apply pw_below_drewN | apply below_drew1) | exact HB.out)⟩⟩
                                        · rw [if_neg c43] at H
                                          exact absurd H (by simp)
                                      · rw [if_neg c42] at H
                                        exact absurd H (by simp)
                                    · rw [if_neg c41] at H
                                      have c41b0 : decide (x11_4 < ji29) = false := decide_eq_false c41
                                      clear c41
                                      have H' := Aside0.mk H
                                      clear H
                                      go_wp2
                                      repeat (go_quiet (fail); try go_wp2)
                                      go_roundg k4
                                      case measure => have := HK1.out; have := HJ18.out; have := HJ29.out; have := HK4.out; omega
                                      case rel => exact ⟨(wrap64 (x8_1 + 1)), (by first | rfl | (simp; done) | (simp [*]; done)), H', ⟨by have := HK1.out; have := HJ18.out; have := HJ29.out; have := HK4.out; omega⟩, ⟨by (with_reducible repeat (first | apply Kd.R_alloc | apply Kd.R_drewN | apply Kd.R_drew)); exact HO_5.out⟩, ⟨by (with_reducible repeat (first | apply Kd.R_alloc | apply Kd.R_drewN | apply Kd.R_drew)); exact HO_6.out⟩, ⟨by (with_reducible repeat (first | apply Kd.R_alloc | apply Kd.R_drewN | apply Kd.R_drew)); exact HO_7.out⟩, ⟨by repeat (first | (with_reducible first | exact HB.out | apply below_alloc | apply pw_below_drewN | apply below_drew1) | exact HB.out)⟩⟩
                        · rw [if_neg c27] at H
                          exact absurd H (by simp)
                      · rw [if_neg c26] at H
                        exact absurd H (by simp)
            · rw [if_neg c17] at H
              exact absurd H (by simp)
          · rw [if_neg c16] at H
            have c16b0 : decide (x8_1 < (t392.length : Int)) = false := decide_eq_false c16
            clear c16
            obtain rfl := Option.some.inj H
            go_wp2
            repeat (go_quiet (fail); try go_wp2)
            go_ret
            exact ⟨by first | rfl | (simp [errW_none, errW_some] <;> rfl) | (simp [*, errW_none, errW_some] <;> rfl), by repeat (first | (with_reducible first | exact HB.out | apply below_alloc | apply pw_below_drewN | apply below_drew1) | exact HB.out)⟩
    · rw [if_neg c8] at H
      have c8b0 : ((t392.length : Int) == (t389.length : Int)) = false := beq_eq_false_iff_ne.mpr c8
      have c8b1 : ((t392.length : Int) != (t389.length : Int)) = true := bne_iff_ne.mpr c8
      have c8b2 : (t392.length == t389.length) = false := by first | simpa using c8 | (simp at c8 ⊢; omega)
      obtain rfl := Option.some.inj H
      go_enter Try.func7, Try.ntmps7
      go_wp2_with (first | (go_at_call 13; (with_reducible refine (canopylaw1_known.calls k  true _ A3.out).mono ?_); rintro e w51 ⟨rfl, hb⟩; have n0_ := Aside0.mk (below_step (by repeat (first | (with_reducible first | exact HB.out | apply below_alloc | apply pw_below_drewN | apply below_drew1) | exact HB.out)) hb); clear HB; have HB := n0_; clear n0_; (try clear hb); (try clear hb2); (try clear hk); (try clear hi)) | (go_at_call 14; (with_reducible refine (canopylaw1_Syms.calls a0 _ _ l1 t386 _ ?side1 ?side2 A5.out).mono ?_); (case side1 => repeat (first | exact (Kd.C_below HR1.out HB.out) | (with_reducible refine Kd.C_alloc ?_ _) | (with_reducible refine Kd.C_drewN ?_ _) | (with_reducible refine Kd.C_drew ?_))); (case side2 => exact HC1.out); rintro e w52 ⟨v387, rfl, ho0, hb⟩; have n0_ := Aside0.mk (Kd.R_lower ho0 (below_size (by repeat (first | (with_reducible first | exact HB.out | apply below_alloc | apply pw_below_drewN | apply below_drew1) | exact HB.out)))); have n1_ := Aside0.mk (below_step (by repeat (first | (with_reducible first | exact HB.out | apply below_alloc | apply pw_below_drewN | apply below_drew1) | exact HB.out)) hb); clear HB; have HO388 := n0_; have HB := n1_; clear n0_ n1_; (try clear hb); (try clear hb2); (try clear hk); (try clear hi); (try clear ho0); obtain ⟨Ao53, co53, eo53⟩ := Kd.R_slice HO388.out; subst eo53) | (go_at_call 15; (with_reducible refine (canopylaw1_Word.calls k _ _ t386 _ _ l1 40 t389 _ ?side1 ?side2 ?side3 ?side4 A6.out).mono ?_); (case side1 => repeat (first | exact (Kd.R_reads' HO388.out).2.2 | (with_reducible refine Kd.C_alloc ?_ _) | (with_reducible refine Kd.C_drewN ?_ _) | (with_reducible refine Kd.C_drew ?_))); (case side2 => exact (Kd.R_reads' HO388.out).2.1); (case side3 => repeat (first | exact (Kd.C_below HR1.out HB.out) | (with_reducible refine Kd.C_alloc ?_ _) | (with_reducible refine Kd.C_drewN ?_ _) | (with_reducible refine Kd.C_drew ?_))); (case side4 => exact HC1.out); rintro e w54 ⟨v390, rfl, ho0, hb⟩; have n0_ := Aside0.mk (Kd.R_below (by (with_reducible repeat (first | apply Kd.R_alloc | apply Kd.R_drewN | apply Kd.R_drew)); exact HO388.out) hb); have n1_ := Aside0.mk (Kd.R_lower ho0 (below_size (by repeat (first | (with_reducible first | exact HB.out | apply below_alloc | apply pw_below_drewN | apply below_drew1) | exact HB.out)))); have n2_ := Aside0.mk (below_step (by repeat (first | (with_reducible first | exact HB.out | apply below_alloc | apply pw_below_drewN | apply below_drew1) | exact HB.out)) hb); clear HO388; clear HB; have HO388 := n0_; have HO391 := n1_; have HB := n2_; clear n0_ n1_ n2_; (try clear hb); (try clear hb2); (try clear hk); (try clear hi); (try clear ho0); obtain ⟨Ao55, co55, eo55⟩ := Kd.R_slice HO391.out; subst eo55) | (go_at_call 25; (with_reducible refine (word_Match.calls k _ _ t386 _ _ t389 t392 _ ?side1 ?side2 ?side3 ?side4 A7.out).mono ?_); (case side1 => repeat (first | exact (Kd.R_reads' HO388.out).2.2 | (with_reducible refine Kd.C_alloc ?_ _) | (with_reducible refine Kd.C_drewN ?_ _) | (with_reducible refine Kd.C_drew ?_))); (case side2 => exact (Kd.R_reads' HO388.out).2.1); (case side3 => repeat (first | exact (Kd.R_reads' HO391.out).2.2 | (with_reducible refine Kd.C_alloc ?_ _) | (with_reducible refine Kd.C_drewN ?_ _) | (with_reducible refine Kd.C_drew ?_))); (case side4 => exact (Kd.R_reads' HO391.out).2.1); rintro e w56 ⟨v393, rfl, ho0, hb⟩; have n0_ := Aside0.mk (Kd.R_below (by (with_reducible repeat (first | apply Kd.R_alloc | apply Kd.R_drewN | apply Kd.R_drew)); exact HO388.out) hb); have n1_ := Aside0.mk (Kd.R_elder' (by (with_reducible repeat (first | apply Kd.R_alloc | apply Kd.R_drewN | apply Kd.R_drew)); exact HO391.out) (Kd.R_base ho0) hb); have n2_ := Aside0.mk (Kd.R_lower (Kd.R_new' ho0 (Kd.R_lt (by (with_reducible repeat (first | apply Kd.R_alloc | apply Kd.R_drewN | apply Kd.R_drew)); exact HO391.out))) (below_size (by repeat (first | (with_reducible first | exact HB.out | apply below_alloc | apply pw_below_drewN | apply below_drew1) | exact HB.out)))); have n3_ := Aside0.mk (below_step (by repeat (first | (with_reducible first | exact HB.out | apply below_alloc | apply pw_below_drewN | apply below_drew1) | exact HB.out)) hb); clear HO388; clear HO391; clear HB; have HO388 := n0_; have HO391 := n1_; have HO394 := n2_; have HB := n3_; clear n0_ n1_ n2_ n3_; (try clear hb); (try clear hb2); (try clear hk); (try clear hi); (try clear ho0); obtain ⟨Ao57, co57, eo57⟩ := Kd.R_slice HO394.out; subst eo57))
      repeat (go_quiet (first | (go_at_call 13; (with_reducible refine (canopylaw1_known.calls k  true _ A3.out).mono ?_); rintro e w51 ⟨rfl, hb⟩; have n0_ := Aside0.mk (below_step (by repeat (first | (with_reducible first | exact HB.out | apply below_alloc | apply pw_below_drewN | apply below_drew1) | exact HB.out)) hb); clear HB; have HB := n0_; clear n0_; (try clear hb); (try clear hb2); (try clear hk); (try clear hi)) | (go_at_call 14; (with_reducible refine (canopylaw1_Syms.calls a0 _ _ l1 t386 _ ?side1 ?side2 A5.out).mono ?_); (case side1 => repeat (first | exact (Kd.C_below HR1.out HB.out) | (with_reducible refine Kd.C_alloc ?_ _) | (with_reducible refine Kd.C_drewN ?_ _) | (with_reducible refine Kd.C_drew ?_))); (case side2 => exact HC1.out); rintro e w52 ⟨v387, rfl, ho0, hb⟩; have n0_ := Aside0.mk (Kd.R_lower ho0 (below_size (by repeat (first | (with_reducible first | exact HB.out | apply below_alloc | apply pw_below_drewN | apply below_drew1) | exact HB.out)))); have n1_ := Aside0.mk (below_step (by repeat (first | (with_reducible first | exact HB.out | apply below_alloc | apply pw_below_drewN | apply below_drew1) | exact HB.out)) hb); clear HB; have HO388 := n0_; have HB := n1_; clear n0_ n1_; (try clear hb); (try clear hb2); (try clear hk); (try clear hi); (try clear ho0); obtain ⟨Ao53, co53, eo53⟩ := Kd.R_slice HO388.out; subst eo53) | (go_at_call 15; (with_reducible refine (canopylaw1_Word.calls k _ _ t386 _ _ l1 40 t389 _ ?side1 ?side2 ?side3 ?side4 A6.out).mono ?_); (case side1 => repeat (first | exact (Kd.R_reads' HO388.out).2.2 | (with_reducible refine Kd.C_alloc ?_ _) | (with_reducible refine Kd.C_drewN ?_ _) | (with_reducible refine Kd.C_drew ?_))); (case side2 => exact (Kd.R_reads' HO388.out).2.1); (case side3 => repeat (first | exact (Kd.C_below HR1.out HB.out) | (with_reducible refine Kd.C_alloc ?_ _) | (with_reducible refine Kd.C_drewN ?_ _) | (with_reducible refine Kd.C_drew ?_))); (case side4 => exact HC1.out); rintro e w54 ⟨v390, rfl, ho0, hb⟩; have n0_ := Aside0.mk (Kd.R_below (by (with_reducible repeat (first | apply Kd.R_alloc | apply Kd.R_drewN | apply Kd.R_drew)); exact HO388.out) hb); have n1_ := Aside0.mk (Kd.R_lower ho0 (below_size (by repeat (first | (with_reducible first | exact HB.out | apply below_alloc | apply pw_below_drewN | apply below_drew1) | exact HB.out)))); have n2_ := Aside0.mk (below_step (by repeat (first | (with_reducible first | exact HB.out | apply below_alloc | apply pw_below_drewN | apply below_drew1) | exact HB.out)) hb); clear HO388; clear HB; have HO388 := n0_; have HO391 := n1_; have HB := n2_; clear n0_ n1_ n2_; (try clear hb); (try clear hb2); (try clear hk); (try clear hi); (try clear ho0); obtain ⟨Ao55, co55, eo55⟩ := Kd.R_slice HO391.out; subst eo55) | (go_at_call 25; (with_reducible refine (word_Match.calls k _ _ t386 _ _ t389 t392 _ ?side1 ?side2 ?side3 ?side4 A7.out).mono ?_); (case side1 => repeat (first | exact (Kd.R_reads' HO388.out).2.2 | (with_reducible refine Kd.C_alloc ?_ _) | (with_reducible refine Kd.C_drewN ?_ _) | (with_reducible refine Kd.C_drew ?_))); (case side2 => exact (Kd.R_reads' HO388.out).2.1); (case side3 => repeat (first | exact (Kd.R_reads' HO391.out).2.2 | (with_reducible refine Kd.C_alloc ?_ _) | (with_reducible refine Kd.C_drewN ?_ _) | (with_reducible refine Kd.C_drew ?_))); (case side4 => exact (Kd.R_reads' HO391.out).2.1); rintro e w56 ⟨v393, rfl, ho0, hb⟩; have n0_ := Aside0.mk (Kd.R_below (by (with_reducible repeat (first | apply Kd.R_alloc | apply Kd.R_drewN | apply Kd.R_drew)); exact HO388.out) hb); have n1_ := Aside0.mk (Kd.R_elder' (by (with_reducible repeat (first | apply Kd.R_alloc | apply Kd.R_drewN | apply Kd.R_drew)); exact HO391.out) (Kd.R_base ho0) hb); have n2_ := Aside0.mk (Kd.R_lower (Kd.R_new' ho0 (Kd.R_lt (by (with_reducible repeat (first | apply Kd.R_alloc | apply Kd.R_drewN | apply Kd.R_drew)); exact HO391.out))) (below_size (by repeat (first | (with_reducible first | exact HB.out | apply below_alloc | apply pw_below_drewN | apply below_drew1) | exact HB.out)))); have n3_ := Aside0.mk (below_step (by repeat (first | (with_reducible first | exact HB.out | apply below_alloc | apply pw_below_drewN | apply below_drew1) | exact HB.out)) hb); clear HO388; clear HO391; clear HB; have HO388 := n0_; have HO391 := n1_; have HO394 := n2_; have HB := n3_; clear n0_ n1_ n2_ n3_; (try clear hb); (try clear hb2); (try clear hk); (try clear hi); (try clear ho0); obtain ⟨Ao57, co57, eo57⟩ := Kd.R_slice HO394.out; subst eo57)); try go_wp2_with (first | (go_at_call 13; (with_reducible refine (canopylaw1_known.calls k  true _ A3.out).mono ?_); rintro e w51 ⟨rfl, hb⟩; have n0_ := Aside0.mk (below_step (by repeat (first | (with_reducible first | exact HB.out | apply below_alloc | apply pw_below_drewN | apply below_drew1) | exact HB.out)) hb); clear HB; have HB := n0_; clear n0_; (try clear hb); (try clear hb2); (try clear hk); (try clear hi)) | (go_at_call 14; (with_reducible refine (canopylaw1_Syms.calls a0 _ _ l1 t386 _ ?side1 ?side2 A5.out).mono ?_); (case side1 => repeat (first | exact (Kd.C_below HR1.out HB.out) | (with_reducible refine Kd.C_alloc ?_ _) | (with_reducible refine Kd.C_drewN ?_ _) | (with_reducible refine Kd.C_drew ?_))); (case side2 => exact HC1.out); rintro e w52 ⟨v387, rfl, ho0, hb⟩; have n0_ := Aside0.mk (Kd.R_lower ho0 (below_size (by repeat (first | (with_reducible first | exact HB.out | apply below_alloc | apply pw_below_drewN | apply below_drew1) | exact HB.out)))); have n1_ := Aside0.mk (below_step (by repeat (first | (with_reducible first | exact HB.out | apply below_alloc | apply pw_below_drewN | apply below_drew1) | exact HB.out)) hb); clear HB; have HO388 := n0_; have HB := n1_; clear n0_ n1_; (try clear hb); (try clear hb2); (try clear hk); (try clear hi); (try clear ho0); obtain ⟨Ao53, co53, eo53⟩ := Kd.R_slice HO388.out; subst eo53) | (go_at_call 15; (with_reducible refine (canopylaw1_Word.calls k _ _ t386 _ _ l1 40 t389 _ ?side1 ?side2 ?side3 ?side4 A6.out).mono ?_); (case side1 => repeat (first | exact (Kd.R_reads' HO388.out).2.2 | (with_reducible refine Kd.C_alloc ?_ _) | (with_reducible refine Kd.C_drewN ?_ _) | (with_reducible refine Kd.C_drew ?_))); (case side2 => exact (Kd.R_reads' HO388.out).2.1); (case side3 => repeat (first | exact (Kd.C_below HR1.out HB.out) | (with_reducible refine Kd.C_alloc ?_ _) | (with_reducible refine Kd.C_drewN ?_ _) | (with_reducible refine Kd.C_drew ?_))); (case side4 => exact HC1.out); rintro e w54 ⟨v390, rfl, ho0, hb⟩; have n0_ := Aside0.mk (Kd.R_below (by (with_reducible repeat (first | apply Kd.R_alloc | apply Kd.R_drewN | apply Kd.R_drew)); exact HO388.out) hb); have n1_ := Aside0.mk (Kd.R_lower ho0 (below_size (by repeat (first | (with_reducible first | exact HB.out | apply below_alloc | apply pw_below_drewN | apply below_drew1) | exact HB.out)))); have n2_ := Aside0.mk (below_step (by repeat (first | (with_reducible first | exact HB.out | apply below_alloc | apply pw_below_drewN | apply below_drew1) | exact HB.out)) hb); clear HO388; clear HB; have HO388 := n0_; have HO391 := n1_; have HB := n2_; clear n0_ n1_ n2_; (try clear hb); (try clear hb2); (try clear hk); (try clear hi); (try clear ho0); obtain ⟨Ao55, co55, eo55⟩ := Kd.R_slice HO391.out; subst eo55) | (go_at_call 25; (with_reducible refine (word_Match.calls k _ _ t386 _ _ t389 t392 _ ?side1 ?side2 ?side3 ?side4 A7.out).mono ?_); (case side1 => repeat (first | exact (Kd.R_reads' HO388.out).2.2 | (with_reducible refine Kd.C_alloc ?_ _) | (with_reducible refine Kd.C_drewN ?_ _) | (with_reducible refine Kd.C_drew ?_))); (case side2 => exact (Kd.R_reads' HO388.out).2.1); (case side3 => repeat (first | exact (Kd.R_reads' HO391.out).2.2 | (with_reducible refine Kd.C_alloc ?_ _) | (with_reducible refine Kd.C_drewN ?_ _) | (with_reducible refine Kd.C_drew ?_))); (case side4 => exact (Kd.R_reads' HO391.out).2.1); rintro e w56 ⟨v393, rfl, ho0, hb⟩; have n0_ := Aside0.mk (Kd.R_below (by (with_reducible repeat (first | apply Kd.R_alloc | apply Kd.R_drewN | apply Kd.R_drew)); exact HO388.out) hb); have n1_ := Aside0.mk (Kd.R_elder' (by (with_reducible repeat (first | apply Kd.R_alloc | apply Kd.R_drewN | apply Kd.R_drew)); exact HO391.out) (Kd.R_base ho0) hb); have n2_ := Aside0.mk (Kd.R_lower (Kd.R_new' ho0 (Kd.R_lt (by (with_reducible repeat (first | apply Kd.R_alloc | apply Kd.R_drewN | apply Kd.R_drew)); exact HO391.out))) (below_size (by repeat (first | (with_reducible first | exact HB.out | apply below_alloc | apply pw_below_drewN | apply below_drew1) | exact HB.out)))); have n3_ := Aside0.mk (below_step (by repeat (first | (with_reducible first | exact HB.out | apply below_alloc | apply pw_below_drewN | apply below_drew1) | exact HB.out)) hb); clear HO388; clear HO391; clear HB; have HO388 := n0_; have HO391 := n1_; have HO394 := n2_; have HB := n3_; clear n0_ n1_ n2_ n3_; (try clear hb); (try clear hb2); (try clear hk); (try clear hi); (try clear ho0); obtain ⟨Ao57, co57, eo57⟩ := Kd.R_slice HO394.out; subst eo57)))
      go_ret
      exact ⟨by first | rfl | (simp [errW_none, errW_some] <;> rfl) | (simp [*, errW_none, errW_some] <;> rfl), by repeat (first | (with_reducible first | exact HB.out | apply below_alloc | apply pw_below_drewN | apply below_drew1) | exact HB.out)⟩
  · replace c4 := Bool.eq_false_iff.mpr c4
    subst c4
    have H1 : (some false) = some r := by rw [if_neg (show ¬ (false = true) by decide)] at H; exact H
    clear H
    have H := H1
    clear H1
    obtain rfl := Option.some.inj H
    go_enter Try.func7, Try.ntmps7
    go_wp2_with (first | (go_at_call 13; (with_reducible refine (canopylaw1_known.calls k  false _ A3.out).mono ?_); rintro e w58 ⟨rfl, hb⟩; have n0_ := Aside0.mk (below_step (by repeat (first | (with_reducible first | exact HB.out | apply below_alloc | apply pw_below_drewN | apply below_drew1) | exact HB.out)) hb); clear HB; have HB := n0_; clear n0_; (try clear hb); (try clear hb2); (try clear hk); (try clear hi)))
    repeat (go_quiet (first | (go_at_call 13; (with_reducible refine (canopylaw1_known.calls k  false _ A3.out).mono ?_); rintro e w58 ⟨rfl, hb⟩; have n0_ := Aside0.mk (below_step (by repeat (first | (with_reducible first | exact HB.out | apply below_alloc | apply pw_below_drewN | apply below_drew1) | exact HB.out)) hb); clear HB; have HB := n0_; clear n0_; (try clear hb); (try clear hb2); (try clear hk); (try clear hi))); try go_wp2_with (first | (go_at_call 13; (with_reducible refine (canopylaw1_known.calls k  false _ A3.out).mono ?_); rintro e w58 ⟨rfl, hb⟩; have n0_ := Aside0.mk (below_step (by repeat (first | (with_reducible first | exact HB.out | apply below_alloc | apply pw_below_drewN | apply below_drew1) | exact HB.out)) hb); clear HB; have HB := n0_; clear n0_; (try clear hb); (try clear hb2); (try clear hk); (try clear hi))))
    go_ret
    exact ⟨by first | rfl | (simp [errW_none, errW_some] <;> rfl) | (simp [*, errW_none, errW_some] <;> rfl), by repeat (first | (with_reducible first | exact HB.out | apply below_alloc | apply pw_below_drewN | apply below_drew1) | exact HB.out)⟩

/-- THE ONE PURE STATEMENT of canopylaw1_WordPartners: yours. -/
def canopylaw1_WordPartners.Pure : Prop := ∀ (a0 : Int) (l1 : List Int), (Lit.int .i64 a0).wf = true → l1.length ≤ maxLen → l1.length * 8 ≤ 140737488351232 → (∀ x ∈ l1, (Lit.int .i64 x).wf = true) → ∃ k, canopylaw1_WordPartners.f k a0 l1 = some true
theorem canopylaw1_WordPartners.walk (P : canopylaw1_WordPartners.Pure) (a0 : Int) (a1 : Option Addr) (len1 cap1 : Nat) (z1 : List Int) (w : World) (w0 : (Lit.int .i64 a0).wf = true) (w1 : (a1 = none ∧ len1 = 0 ∧ cap1 = 0 ∧ z1 = []) ∨ ∃ x, a1 = some x ∧ len1 ≤ cap1 ∧ cap1 ≤ maxLen ∧ z1.length = cap1 ∧ (∀ i, i < z1.length → w.cell? (x.add i) = some (.int .i64 (z1.getD i 0))) ∧ ∀ n ∈ z1, (Lit.int .i64 n).wf = true) (y1 : len1 * 8 ≤ 140737488351232) :
    Calls Try.prog 7 #[.int .i64 a0, .slice a1 len1 cap1] w fun e w' => e = .returned (.bool true) ∧ Below w.heap.size w w' := by
  obtain ⟨l1, rfl, hr1, hm1, hw1, hc1⟩ := ReadsInt.ofRowC w1
  obtain ⟨k, h⟩ := P a0 l1 w0 hm1 y1 hw1
  refine (canopylaw1_WordPartners.calls k a0 _ _ l1 true w (Kd.C_of_reads (d := (0 : Int)) (h1 := fun _ => rfl) hr1) hc1 h).mono ?_
  rintro e w' ⟨rfl, hd⟩
  exact ⟨rfl, hd⟩

end Go.Proofs.Ytiibfkjfanglbaa.P
