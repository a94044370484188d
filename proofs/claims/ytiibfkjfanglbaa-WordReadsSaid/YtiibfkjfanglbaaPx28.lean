-- written by pp.py (wip/tools of this session's repo) out of the seat's translation
import Derived.Test.YtiibfkjfanglbaaPx0
import Derived.Test.YtiibfkjfanglbaaPx2
import Derived.Test.YtiibfkjfanglbaaPx3
import Derived.Test.YtiibfkjfanglbaaPx11
import Derived.Test.YtiibfkjfanglbaaPx17
import Derived.Test.YtiibfkjfanglbaaPx18
import Derived.Test.YtiibfkjfanglbaaPx20
import Derived.Test.YtiibfkjfanglbaaPx21
import Derived.Test.YtiibfkjfanglbaaPx23
import Derived.Test.YtiibfkjfanglbaaPx27
namespace Go.Proofs.Ytiibfkjfanglbaa.P
open Go.RowKit Go.Proofs.YtiibfkjfanglbaaW.PrintWords Go.Proofs.YtiibfkjfanglbaaW.PrintLast Go.Proofs.YtiibfkjfanglbaaW.PrintMore
attribute [local go_sem] max2_int min2_int max_two min_two max_three min_three max_four min_four   -- for this text's walks alone
set_option linter.unusedVariables false
set_option linter.unusedSimpArgs false

/-! ### canopylaw1_WordReads: function 4 -/
mutual
def canopylaw1_WordReads.j0 : Nat → Int → List Int → Int → Int → Int → ByteArray → ByteArray → Bool → Option (Bool)
  | 0, _, _, _, _, _, _, _, _ => none
  | k + 1, x0, x1, x2, x3, x4, x5, x6, x35 => if x35 = true then (some true) else ((canopylaw1_Syms.f x0 x1).bind fun t274 => ((canopylaw1_Word.f k t274 x1 12).bind fun t277 => ((canopyref1_Text.f k t274 t277).bind fun t280 => ((canopylaw1_within.f x4 (wrap64 ((t280.size : Int) + 1))).bind fun t281 => ((canopylaw1_turned.f t280 x2 x3).bind fun t282 => (if 0 ≤ t281 then (if t281 ≤ (t280.size : Int) then (if (t280.extract 0 (t281 : Int).toNat).size + x5.size ≤ 9223372036854775807 then (if ((t280.extract 0 (t281 : Int).toNat) ++ x5).size + (t280.extract (t281 : Int).toNat t280.size).size ≤ 9223372036854775807 then (if t280.size + 1 ≤ 9223372036854775807 then (if (t280 ++ (⟨#[32]⟩ : ByteArray)).size + x6.size ≤ 9223372036854775807 then (if 1 + x6.size ≤ 9223372036854775807 then (if ((⟨#[60]⟩ : ByteArray) ++ x6).size + 1 ≤ 9223372036854775807 then (if 2 + x6.size ≤ 9223372036854775807 then (canopylaw1_WordReads.l0 k t274 (([t282, t280.extract 0 (t281 : Int).toNat, ((t280.extract 0 (t281 : Int).toNat) ++ x5) ++ (t280.extract (t281 : Int).toNat t280.size), x6, (t280 ++ (⟨#[32]⟩ : ByteArray)) ++ x6, ((⟨#[60]⟩ : ByteArray) ++ x6) ++ (⟨#[62]⟩ : ByteArray), (⟨#[60, 47]⟩ : ByteArray) ++ x6, (⟨#[60, 97]⟩ : ByteArray), (⟨#[60, 62]⟩ : ByteArray), (⟨#[60, 47, 62]⟩ : ByteArray), (⟨#[97, 98, 99, 100, 101, 102, 103, 104, 105]⟩ : ByteArray), (⟨#[60, 97, 98, 99, 100, 101, 102, 103, 104, 105, 62]⟩ : ByteArray), (⟨#[122, 122]⟩ : ByteArray), (⟨#[60, 122, 122, 62]⟩ : ByteArray), (⟨#[97, 62]⟩ : ByteArray), (⟨#[60, 32, 97, 62]⟩ : ByteArray)] : List ByteArray)) 0) else (none)) else (none)) else (none)) else (none)) else (none)) else (none)) else (none)) else (none)) else (none)))))))
def canopylaw1_WordReads.l0 : Nat → List (S40) → List ByteArray → Int → Option (Bool)
  | 0, _, _, _ => none
  | k + 1, x15, x18, x19 => if x19 < (x18.length : Int) then (if 0 ≤ x19 then ((word_Parse.f k x15 (rdOf ByteArray.empty x18 x19)).bind fun bt287 => ((canopyref1_Parse.f k x15 (rdOf ByteArray.empty x18 x19)).bind fun bt293 => (if bt287.2.2 = bt293.2.2 then (if bt287.2.1 = bt293.2.1 then ((canopyref1_Ints.f k bt287.1 bt293.1).bind fun t298 => (if t298 = true then (canopylaw1_WordReads.l0 k x15 x18 (wrap64 (x19 + 1))) else (some false))) else (some false)) else (some false)))) else (none)) else (some true)
end
def canopylaw1_WordReads.f (k : Nat) (a0 : Int) (l1 : List Int) (a2 : Int) (a3 : Int) (a4 : Int) (a5 : ByteArray) (a6 : ByteArray) : Option (Bool) := (canopylaw1_known.f k).bind fun t273 => (if t273 = true then (if (a5.size : Int) > 40 then (canopylaw1_WordReads.j0 k a0 l1 a2 a3 a4 a5 a6 true) else (canopylaw1_WordReads.j0 k a0 l1 a2 a3 a4 a5 a6 (decide ((a6.size : Int) > 200)))) else (some false))
theorem canopylaw1_WordReads.mono_l : ∀ k, (∀ y0 y1 y2 y3 y4 y5 y6 y7, LeO (canopylaw1_WordReads.j0 k y0 y1 y2 y3 y4 y5 y6 y7) (canopylaw1_WordReads.j0 (k + 1) y0 y1 y2 y3 y4 y5 y6 y7)) ∧ (∀ y0 y1 y2, LeO (canopylaw1_WordReads.l0 k y0 y1 y2) (canopylaw1_WordReads.l0 (k + 1) y0 y1 y2))
  | 0 => ⟨fun _ _ _ _ _ _ _ _ r h => by simp [canopylaw1_WordReads.j0] at h, fun _ _ _ r h => by simp [canopylaw1_WordReads.l0] at h⟩
  | k + 1 => by
    obtain ⟨ih0, ih1⟩ := canopylaw1_WordReads.mono_l k
    refine ⟨?_, ?_⟩
    · intro y0 y1 y2 y3 y4 y5 y6 y7
      unfold canopylaw1_WordReads.j0
      repeat' first
      | (with_reducible exact ih0 _ _ _ _ _ _ _ _)
      | (with_reducible exact ih1 _ _ _)
      | (with_reducible exact canopylaw1_Word.mono _ _ _ _)
      | (with_reducible exact canopylaw1_known.mono _)
      | (with_reducible exact canopyref1_Ints.mono _ _ _)
      | (with_reducible exact canopyref1_Parse.mono _ _ _)
      | (with_reducible exact canopyref1_Text.mono _ _ _)
      | (with_reducible exact word_Parse.mono _ _ _)
      | (with_reducible exact LeO.refl _)
      | (with_reducible exact LeO.none _)
      | (with_reducible refine LeO.ite ?_ ?_)
      | (with_reducible refine LeO.bind ?_ (fun _ => ?_))
      | exact ih0 _ _ _ _ _ _ _ _
      | exact ih1 _ _ _
      | exact canopylaw1_Word.mono _ _ _ _
      | exact canopylaw1_known.mono _
      | exact canopyref1_Ints.mono _ _ _
      | exact canopyref1_Parse.mono _ _ _
      | exact canopyref1_Text.mono _ _ _
      | exact word_Parse.mono _ _ _
      | exact LeO.none _
      | refine LeO.ite ?_ ?_
      | refine LeO.bind ?_ (fun _ => ?_)
    · intro y0 y1 y2
      unfold canopylaw1_WordReads.l0
      repeat' first
      | (with_reducible exact ih0 _ _ _ _ _ _ _ _)
      | (with_reducible exact ih1 _ _ _)
      | (with_reducible exact canopylaw1_Word.mono _ _ _ _)
      | (with_reducible exact canopylaw1_known.mono _)
      | (with_reducible exact canopyref1_Ints.mono _ _ _)
      | (with_reducible exact canopyref1_Parse.mono _ _ _)
      | (with_reducible exact canopyref1_Text.mono _ _ _)
      | (with_reducible exact word_Parse.mono _ _ _)
      | (with_reducible exact LeO.refl _)
      | (with_reducible exact LeO.none _)
      | (with_reducible refine LeO.ite ?_ ?_)
      | (with_reducible refine LeO.bind ?_ (fun _ => ?_))
      | exact ih0 _ _ _ _ _ _ _ _
      | exact ih1 _ _ _
      | exact canopylaw1_Word.mono _ _ _ _
      | exact canopylaw1_known.mono _
      | exact canopyref1_Ints.mono _ _ _
      | exact canopyref1_Parse.mono _ _ _
      | exact canopyref1_Text.mono _ _ _
      | exact word_Parse.mono _ _ _
      | exact LeO.none _
      | refine LeO.ite ?_ ?_
      | refine LeO.bind ?_ (fun _ => ?_)
theorem canopylaw1_WordReads.mono : ∀ a0 a1 a2 a3 a4 a5 a6 k, LeO (canopylaw1_WordReads.f k a0 a1 a2 a3 a4 a5 a6) (canopylaw1_WordReads.f (k + 1) a0 a1 a2 a3 a4 a5 a6) := by
  intro a0 a1 a2 a3 a4 a5 a6 k
  obtain ⟨ih0, ih1⟩ := canopylaw1_WordReads.mono_l k
  unfold canopylaw1_WordReads.f
  repeat' first
      | (with_reducible exact ih0 _ _ _ _ _ _ _ _)
      | (with_reducible exact ih1 _ _ _)
      | (with_reducible exact canopylaw1_Word.mono _ _ _ _)
      | (with_reducible exact canopylaw1_known.mono _)
      | (with_reducible exact canopyref1_Ints.mono _ _ _)
      | (with_reducible exact canopyref1_Parse.mono _ _ _)
      | (with_reducible exact canopyref1_Text.mono _ _ _)
      | (with_reducible exact word_Parse.mono _ _ _)
      | (with_reducible exact LeO.refl _)
      | (with_reducible exact LeO.none _)
      | (with_reducible refine LeO.ite ?_ ?_)
      | (with_reducible refine LeO.bind ?_ (fun _ => ?_))
      | exact ih0 _ _ _ _ _ _ _ _
      | exact ih1 _ _ _
      | exact canopylaw1_Word.mono _ _ _ _
      | exact canopylaw1_known.mono _
      | exact canopyref1_Ints.mono _ _ _
      | exact canopyref1_Parse.mono _ _ _
      | exact canopyref1_Text.mono _ _ _
      | exact word_Parse.mono _ _ _
      | exact LeO.none _
      | refine LeO.ite ?_ ?_
      | refine LeO.bind ?_ (fun _ => ?_)
def canopylaw1_WordReads.T8 : Bool × List (List Nat × List Nat) := (true, [([], []), ([], []), ([], []), ([0, 1, 2], [0, 1, 2]), ([], []), ([], []), ([4, 5], [4, 5]), ([], []), ([], []), ([7, 8], [7, 8]), ([], []), ([9, 10], [9, 10]), ([], []), ([], []), ([12, 13], [12, 13]), ([11, 14], [11, 14]), ([], []), ([], []), ([17], [17]), ([], []), ([18, 19], [18, 19]), ([], []), ([21], [21]), ([22], [22]), ([], []), ([24], [24]), ([3, 6, 15, 16, 20, 23, 25], [3, 6, 15, 16, 20, 23, 25]), ([26, 3, 0, 1, 2, 3, 4, 5, 6, 7, 8, 9, 10, 11, 12, 13, 14, 15, 16, 17, 18, 19, 20, 21, 22, 23, 24, 25, 26], [26])])
def canopylaw1_WordReads.B8 : List Nat := [0, 0, 0, 7, 0, 0, 48, 0, 0, 384, 0, 1920, 0, 0, 12288, 32640, 0, 0, 131072, 0, 917504, 0, 2097152, 6291456, 0, 16777216, 67108863, 134217727]
theorem canopylaw1_WordReads.tab8 : rtab .any (opsOf Try.f4 8) = canopylaw1_WordReads.T8 := by kernel_rfl
theorem canopylaw1_WordReads.bits8 : waitsOk canopylaw1_WordReads.T8.2 canopylaw1_WordReads.B8 = true := by kernel_rfl
set_option maxHeartbeats 8000000 in
set_option maxRecDepth 100000 in
theorem canopylaw1_WordReads.calls (k : Nat) (a0 : Int) (A1 : Option Addr) (c1 : Nat) (l1 : List Int) (a2 : Int) (a3 : Int) (a4 : Int) (a5 : ByteArray) (a6 : ByteArray) (r : Bool) (w : World) (hr1 : Kd.C (Kd.int .i64) w A1 l1.length l1) (hc1 : l1.length ≤ c1) (h : canopylaw1_WordReads.f k a0 l1 a2 a3 a4 a5 a6 = some r) :
    Calls Try.prog 4 #[.int .i64 a0, .slice A1 l1.length c1, .int .i64 a2, .int .u8 a3, .int .i64 a4, .string a5, .string a6] w fun e w' => e = .returned (.bool r) ∧ Below w.heap.size w w' := by
  have HR1 := Aside0.mk hr1
  have HC1 := Aside0.mk hc1
  clear hr1 hc1
  have HB := Aside0.mk (Below.refl w.heap.size w)
  have H : ((canopylaw1_known.f k).bind fun t273 => (if t273 = true then (if (a5.size : Int) > 40 then (canopylaw1_WordReads.j0 k a0 l1 a2 a3 a4 a5 a6 true) else (canopylaw1_WordReads.j0 k a0 l1 a2 a3 a4 a5 a6 (decide ((a6.size : Int) > 200)))) else (some false))) = some r := h
  clear h
  replace H := Option.bind_eq_some_iff.mp H
  obtain ⟨t273, A80, H⟩ := H
  replace H : (if t273 = true then (if (a5.size : Int) > 40 then (canopylaw1_WordReads.j0 k a0 l1 a2 a3 a4 a5 a6 true) else (canopylaw1_WordReads.j0 k a0 l1 a2 a3 a4 a5 a6 (decide ((a6.size : Int) > 200)))) else (some false)) = some r := H
  have A8 := Aside0.mk A80
  clear A80
  by_cases c9 : t273 = true
  · subst c9
    have H1 : (if (a5.size : Int) > 40 then (canopylaw1_WordReads.j0 k a0 l1 a2 a3 a4 a5 a6 true) else (canopylaw1_WordReads.j0 k a0 l1 a2 a3 a4 a5 a6 (decide ((a6.size : Int) > 200)))) = some r := by rw [if_pos rfl] at H; exact H
    clear H
    have H := H1
    clear H1
    have HC10 := Aside0.mk H
    clear H
    go_enter Try.func4, Try.ntmps4
    go_upto_region 3 with (first | ((with_reducible refine gate_callee (f := 13) rfl ?_); refine goesL_ (some 26) rfl rfl Try.func13 (by kernel_rfl) rfl #[] rfl (by (try simp only [List.map_toArray, List.map_cons, List.map_nil]); first | done | rfl | (simp only [List.length_drop, List.length_take]; rfl)) ?_; (with_reducible refine (canopylaw1_known.calls k  true _ A8.out).mono ?_); rintro e w11 ⟨rfl, hb⟩; refine ⟨_, rfl, ?_⟩; have n0_ := Aside0.mk (below_step (by repeat (first | (with_reducible first | exact HB.out | apply below_alloc | apply pw_below_drewN | apply below_drew1) | exact HB.out)) hb); clear HB; have HB := n0_; clear n0_; (try clear hb); (try clear hb2); (try clear hk); (try clear hi)))
    (try simp only [Act.put, List.setIfInBounds_toArray, List.set_cons_zero, List.set_cons_succ])
    go_cut [35] (fun v35 wc => ∃ (kq : Nat) (x35_9 : Bool), v35 = .bool x35_9 ∧ Aside0 (canopylaw1_WordReads.j0 kq a0 l1 a2 a3 a4 a5 a6 x35_9 = some r) ∧ Aside0 (kq ≤ k) ∧ Aside0 (Below w.heap.size w wc))
    case first =>
      have H := HC10.out
      clear HC10
      by_cases c12 : (a5.size : Int) > 40
      · rw [if_pos c12] at H
        have c12b0 : decide (40 < (a5.size : Int)) = true := decide_eq_true c12
        have c12b1 : decide (40 < a5.size) = true := decide_eq_true (by omega)
        clear c12
        (first | rw [c12b0] | (simp only [i64_w, i32_w]; rw [c12b0]) | skip)
        have H' := Aside0.mk H
        clear H
        go_wp2
        go_meet
        case rel => exact ⟨_, (true), (by first | rfl | (simp; done) | (simp [*]; done)), H', ⟨by first | omega | exact Nat.le_refl _⟩, ⟨by repeat (first | (with_reducible first | exact HB.out | apply below_alloc | apply pw_below_drewN | apply below_drew1) | exact HB.out)⟩⟩
      · rw [if_neg c12] at H
        have c12b0 : decide (40 < (a5.size : Int)) = false := decide_eq_false c12
        have c12b1 : decide (40 < a5.size) = false := decide_eq_false (by omega)
        clear c12
        (first | rw [c12b0] | (simp only [i64_w, i32_w]; rw [c12b0]) | skip)
        have H' := Aside0.mk H
        clear H
        go_wp2
        go_meet
        case rel => exact ⟨_, (decide ((a6.size : Int) > 200)), (by first | rfl | (simp; done) | (simp [*]; done)), H', ⟨by first | omega | exact Nat.le_refl _⟩, ⟨by repeat (first | (with_reducible first | exact HB.out | apply below_alloc | apply pw_below_drewN | apply below_drew1) | exact HB.out)⟩⟩
    case rest =>
      clear HC10
      try clear c1
      try clear p2
      try clear c4
      try clear c9
      try clear c12
      try clear c12b0
      try clear c12b1
      obtain ⟨kq, x35_9, rfl, HA, HJ9, HB⟩ := hcut
      cases kq with
      | zero => exact absurd HA.out (by simp [canopylaw1_WordReads.j0])
      | succ kj9 =>
        have H := HA.out
        clear HA
        simp only [canopylaw1_WordReads.j0] at H
        by_cases c13 : x35_9 = true
        · subst c13
          have H1 : (some true) = some r := by rw [if_pos rfl] at H; exact H
          clear H
          have H := H1
          clear H1
          obtain rfl := Option.some.inj H
          go_wp2
          go_ret
          exact ⟨by first | rfl | (simp [errW_none, errW_some] <;> rfl) | (simp [*, errW_none, errW_some] <;> rfl), by repeat (first | (with_reducible first | exact HB.out | apply below_alloc | apply pw_below_drewN | apply below_drew1) | exact HB.out)⟩
        · replace c13 := Bool.eq_false_iff.mpr c13
          subst c13
          have H1 : ((canopylaw1_Syms.f a0 l1).bind fun t274 => ((canopylaw1_Word.f kj9 t274 l1 12).bind fun t277 => ((canopyref1_Text.f kj9 t274 t277).bind fun t280 => ((canopylaw1_within.f a4 (wrap64 ((t280.size : Int) + 1))).bind fun t281 => ((canopylaw1_turned.f t280 a2 a3).bind fun t282 => (if 0 ≤ t281 then (if t281 ≤ (t280.size : Int) then (if (t280.extract 0 (t281 : Int).toNat).size + a5.size ≤ 9223372036854775807 then (if ((t280.extract 0 (t281 : Int).toNat) ++ a5).size + (t280.extract (t281 : Int).toNat t280.size).size ≤ 9223372036854775807 then (if t280.size + 1 ≤ 9223372036854775807 then (if (t280 ++ (⟨#[32]⟩ : ByteArray)).size + a6.size ≤ 9223372036854775807 then (if 1 + a6.size ≤ 9223372036854775807 then (if ((⟨#[60]⟩ : ByteArray) ++ a6).size + 1 ≤ 9223372036854775807 then (if 2 + a6.size ≤ 9223372036854775807 then (canopylaw1_WordReads.l0 kj9 t274 (([t282, t280.extract 0 (t281 : Int).toNat, ((t280.extract 0 (t281 : Int).toNat) ++ a5) ++ (t280.extract (t281 : Int).toNat t280.size), a6, (t280 ++ (⟨#[32]⟩ : ByteArray)) ++ a6, ((⟨#[60]⟩ : ByteArray) ++ a6) ++ (⟨#[62]⟩ : ByteArray), (⟨#[60, 47]⟩ : ByteArray) ++ a6, (⟨#[60, 97]⟩ : ByteArray), (⟨#[60, 62]⟩ : ByteArray), (⟨#[60, 47, 62]⟩ : ByteArray), (⟨#[97, 98, 99, 100, 101, 102, 103, 104, 105]⟩ : ByteArray), (⟨#[60, 97, 98, 99, 100, 101, 102, 103, 104, 105, 62]⟩ : ByteArray), (⟨#[122, 122]⟩ : ByteArray), (⟨#[60, 122, 122, 62]⟩ : ByteArray), (⟨#[97, 62]⟩ : ByteArray), (⟨#[60, 32, 97, 62]⟩ : ByteArray)] : List ByteArray)) 0) else (none)) else (none)) else (none)) else (none)) else (none)) else (none)) else (none)) else (none)) else (none))))))) = some r := by rw [if_neg (show ¬ (false = true) by decide)] at H; exact H
          clear H
          have H := H1
          clear H1
          replace H := Option.bind_eq_some_iff.mp H
          obtain ⟨t274, A140, H⟩ := H
          replace H : ((canopylaw1_Word.f kj9 t274 l1 12).bind fun t277 => ((canopyref1_Text.f kj9 t274 t277).bind fun t280 => ((canopylaw1_within.f a4 (wrap64 ((t280.size : Int) + 1))).bind fun t281 => ((canopylaw1_turned.f t280 a2 a3).bind fun t282 => (if 0 ≤ t281 then (if t281 ≤ (t280.size : Int) then (if (t280.extract 0 (t281 : Int).toNat).size + a5.size ≤ 9223372036854775807 then (if ((t280.extract 0 (t281 : Int).toNat) ++ a5).size + (t280.extract (t281 : Int).toNat t280.size).size ≤ 9223372036854775807 then (if t280.size + 1 ≤ 9223372036854775807 then (if (t280 ++ (⟨#[32]⟩ : ByteArray)).size + a6.size ≤ 9223372036854775807 then (if 1 + a6.size ≤ 9223372036854775807 then (if ((⟨#[60]⟩ : ByteArray) ++ a6).size + 1 ≤ 9223372036854775807 then (if 2 + a6.size ≤ 9223372036854775807 then (canopylaw1_WordReads.l0 kj9 t274 (([t282, t280.extract 0 (t281 : Int).toNat, ((t280.extract 0 (t281 : Int).toNat) ++ a5) ++ (t280.extract (t281 : Int).toNat t280.size), a6, (t280 ++ (⟨#[32]⟩ : ByteArray)) ++ a6, ((⟨#[60]⟩ : ByteArray) ++ a6) ++ (⟨#[62]⟩ : ByteArray), (⟨#[60, 47]⟩ : ByteArray) ++ a6, (⟨#[60, 97]⟩ : ByteArray), (⟨#[60, 62]⟩ : ByteArray), (⟨#[60, 47, 62]⟩ : ByteArray), (⟨#[97, 98, 99, 100, 101, 102, 103, 104, 105]⟩ : ByteArray), (⟨#[60, 97, 98, 99, 100, 101, 102, 103, 104, 105, 62]⟩ : ByteArray), (⟨#[122, 122]⟩ : ByteArray), (⟨#[60, 122, 122, 62]⟩ : ByteArray), (⟨#[97, 62]⟩ : ByteArray), (⟨#[60, 32, 97, 62]⟩ : ByteArray)] : List ByteArray)) 0) else (none)) else (none)) else (none)) else (none)) else (none)) else (none)) else (none)) else (none)) else (none)))))) = some r := H
          have A14 := Aside0.mk A140
          clear A140
          replace H := Option.bind_eq_some_iff.mp H
          obtain ⟨t277, A150, H⟩ := H
          replace H : ((canopyref1_Text.f kj9 t274 t277).bind fun t280 => ((canopylaw1_within.f a4 (wrap64 ((t280.size : Int) + 1))).bind fun t281 => ((canopylaw1_turned.f t280 a2 a3).bind fun t282 => (if 0 ≤ t281 then (if t281 ≤ (t280.size : Int) then (if (t280.extract 0 (t281 : Int).toNat).size + a5.size ≤ 9223372036854775807 then (if ((t280.extract 0 (t281 : Int).toNat) ++ a5).size + (t280.extract (t281 : Int).toNat t280.size).size ≤ 9223372036854775807 then (if t280.size + 1 ≤ 9223372036854775807 then (if (t280 ++ (⟨#[32]⟩ : ByteArray)).size + a6.size ≤ 9223372036854775807 then (if 1 + a6.size ≤ 9223372036854775807 then (if ((⟨#[60]⟩ : ByteArray) ++ a6).size + 1 ≤ 9223372036854775807 then (if 2 + a6.size ≤ 9223372036854775807 then (canopylaw1_WordReads.l0 kj9 t274 (([t282, t280.extract 0 (t281 : Int).toNat, ((t280.extract 0 (t281 : Int).toNat) ++ a5) ++ (t280.extract (t281 : Int).toNat t280.size), a6, (t280 ++ (⟨#[32]⟩ : ByteArray)) ++ a6, ((⟨#[60]⟩ : ByteArray) ++ a6) ++ (⟨#[62]⟩ : ByteArray), (⟨#[60, 47]⟩ : ByteArray) ++ a6, (⟨#[60, 97]⟩ : ByteArray), (⟨#[60, 62]⟩ : ByteArray), (⟨#[60, 47, 62]⟩ : ByteArray), (⟨#[97, 98, 99, 100, 101, 102, 103, 104, 105]⟩ : ByteArray), (⟨#[60, 97, 98, 99, 100, 101, 102, 103, 104, 105, 62]⟩ : ByteArray), (⟨#[122, 122]⟩ : ByteArray), (⟨#[60, 122, 122, 62]⟩ : ByteArray), (⟨#[97, 62]⟩ : ByteArray), (⟨#[60, 32, 97, 62]⟩ : ByteArray)] : List ByteArray)) 0) else (none)) else (none)) else (none)) else (none)) else (none)) else (none)) else (none)) else (none)) else (none))))) = some r := H
          have A15 := Aside0.mk A150
          clear A150
          replace H := Option.bind_eq_some_iff.mp H
          obtain ⟨t280, A160, H⟩ := H
          replace H : ((canopylaw1_within.f a4 (wrap64 ((t280.size : Int) + 1))).bind fun t281 => ((canopylaw1_turned.f t280 a2 a3).bind fun t282 => (if 0 ≤ t281 then (if t281 ≤ (t280.size : Int) then (if (t280.extract 0 (t281 : Int).toNat).size + a5.size ≤ 9223372036854775807 then (if ((t280.extract 0 (t281 : Int).toNat) ++ a5).size + (t280.extract (t281 : Int).toNat t280.size).size ≤ 9223372036854775807 then (if t280.size + 1 ≤ 9223372036854775807 then (if (t280 ++ (⟨#[32]⟩ : ByteArray)).size + a6.size ≤ 9223372036854775807 then (if 1 + a6.size ≤ 9223372036854775807 then (if ((⟨#[60]⟩ : ByteArray) ++ a6).size + 1 ≤ 9223372036854775807 then (if 2 + a6.size ≤ 9223372036854775807 then (canopylaw1_WordReads.l0 kj9 t274 (([t282, t280.extract 0 (t281 : Int).toNat, ((t280.extract 0 (t281 : Int).toNat) ++ a5) ++ (t280.extract (t281 : Int).toNat t280.size), a6, (t280 ++ (⟨#[32]⟩ : ByteArray)) ++ a6, ((⟨#[60]⟩ : ByteArray) ++ a6) ++ (⟨#[62]⟩ : ByteArray), (⟨#[60, 47]⟩ : ByteArray) ++ a6, (⟨#[60, 97]⟩ : ByteArray), (⟨#[60, 62]⟩ : ByteArray), (⟨#[60, 47, 62]⟩ : ByteArray), (⟨#[97, 98, 99, 100, 101, 102, 103, 104, 105]⟩ : ByteArray), (⟨#[60, 97, 98, 99, 100, 101, 102, 103, 104, 105, 62]⟩ : ByteArray), (⟨#[122, 122]⟩ : ByteArray), (⟨#[60, 122, 122, 62]⟩ : ByteArray), (⟨#[97, 62]⟩ : ByteArray), (⟨#[60, 32, 97, 62]⟩ : ByteArray)] : List ByteArray)) 0) else (none)) else (none)) else (none)) else (none)) else (none)) else (none)) else (none)) else (none)) else (none)))) = some r := H
          have A16 := Aside0.mk A160
          clear A160
          replace H := Option.bind_eq_some_iff.mp H
          obtain ⟨t281, A170, H⟩ := H
          replace H : ((canopylaw1_turned.f t280 a2 a3).bind fun t282 => (if 0 ≤ t281 then (if t281 ≤ (t280.size : Int) then (if (t280.extract 0 (t281 : Int).toNat).size + a5.size ≤ 9223372036854775807 then (if ((t280.extract 0 (t281 : Int).toNat) ++ a5).size + (t280.extract (t281 : Int).toNat t280.size).size ≤ 9223372036854775807 then (if t280.size + 1 ≤ 9223372036854775807 then (if (t280 ++ (⟨#[32]⟩ : ByteArray)).size + a6.size ≤ 9223372036854775807 then (if 1 + a6.size ≤ 9223372036854775807 then (if ((⟨#[60]⟩ : ByteArray) ++ a6).size + 1 ≤ 9223372036854775807 then (if 2 + a6.size ≤ 9223372036854775807 then (canopylaw1_WordReads.l0 kj9 t274 (([t282, t280.extract 0 (t281 : Int).toNat, ((t280.extract 0 (t281 : Int).toNat) ++ a5) ++ (t280.extract (t281 : Int).toNat t280.size), a6, (t280 ++ (⟨#[32]⟩ : ByteArray)) ++ a6, ((⟨#[60]⟩ : ByteArray) ++ a6) ++ (⟨#[62]⟩ : ByteArray), (⟨#[60, 47]⟩ : ByteArray) ++ a6, (⟨#[60, 97]⟩ : ByteArray), (⟨#[60, 62]⟩ : ByteArray), (⟨#[60, 47, 62]⟩ : ByteArray), (⟨#[97, 98, 99, 100, 101, 102, 103, 104, 105]⟩ : ByteArray), (⟨#[60, 97, 98, 99, 100, 101, 102, 103, 104, 105, 62]⟩ : ByteArray), (⟨#[122, 122]⟩ : ByteArray), (⟨#[60, 122, 122, 62]⟩ : ByteArray), (⟨#[97, 62]⟩ : ByteArray), (⟨#[60, 32, 97, 62]⟩ : ByteArray)] : List ByteArray)) 0) else (none)) else (none)) else (none)) else (none)) else (none)) else (none)) else (none)) else (none)) else (none))) = some r := H
          have A17 := Aside0.mk A170
          clear A170
          replace H := Option.bind_eq_some_iff.mp H
          obtain ⟨t282, A180, H⟩ := H
          replace H : (if 0 ≤ t281 then (if t281 ≤ (t280.size : Int) then (if (t280.extract 0 (t281 : Int).toNat).size + a5.size ≤ 9223372036854775807 then (if ((t280.extract 0 (t281 : Int).toNat) ++ a5).size + (t280.extract (t281 : Int).toNat t280.size).size ≤ 9223372036854775807 then (if t280.size + 1 ≤ 9223372036854775807 then (if (t280 ++ (⟨#[32]⟩ : ByteArray)).size + a6.size ≤ 9223372036854775807 then (if 1 + a6.size ≤ 9223372036854775807 then (if ((⟨#[60]⟩ : ByteArray) ++ a6).size + 1 ≤ 9223372036854775807 then (if 2 + a6.size ≤ 9223372036854775807 then (canopylaw1_WordReads.l0 kj9 t274 (([t282, t280.extract 0 (t281 : Int).toNat, ((t280.extract 0 (t281 : Int).toNat) ++ a5) ++ (t280.extract (t281 : Int).toNat t280.size), a6, (t280 ++ (⟨#[32]⟩ : ByteArray)) ++ a6, ((⟨#[60]⟩ : ByteArray) ++ a6) ++ (⟨#[62]⟩ : ByteArray), (⟨#[60, 47]⟩ : ByteArray) ++ a6, (⟨#[60, 97]⟩ : ByteArray), (⟨#[60, 62]⟩ : ByteArray), (⟨#[60, 47, 62]⟩ : ByteArray), (⟨#[97, 98, 99, 100, 101, 102, 103, 104, 105]⟩ : ByteArray), (⟨#[60, 97, 98, 99, 100, 101, 102, 103, 104, 105, 62]⟩ : ByteArray), (⟨#[122, 122]⟩ : ByteArray), (⟨#[60, 122, 122, 62]⟩ : ByteArray), (⟨#[97, 62]⟩ : ByteArray), (⟨#[60, 32, 97, 62]⟩ : ByteArray)] : List ByteArray)) 0) else (none)) else (none)) else (none)) else (none)) else (none)) else (none)) else (none)) else (none)) else (none)) = some r := H
          have A18 := Aside0.mk A180
          clear A180
          by_cases c19 : 0 ≤ t281
          · rw [if_pos c19] at H
            have c19b0 := eq_true c19
            have c19b1 : decide (0 ≤ t281) = true := decide_eq_true c19
            clear c19
            by_cases c20 : t281 ≤ (t280.size : Int)
            · rw [if_pos c20] at H
              have c20b0 := eq_true c20
              have c20b1 : decide (t281 ≤ (t280.size : Int)) = true := decide_eq_true c20
              clear c20
              have c21b0 := eq_true (of_decide_eq_true (by first | (with_reducible assumption) | assumption) : 0 ≤ t281)
              have c22b0 := eq_true (of_decide_eq_true (by first | (with_reducible assumption) | assumption) : t281 ≤ (t280.size : Int))
              by_cases c23 : (t280.extract 0 (t281 : Int).toNat).size + a5.size ≤ 9223372036854775807
              · rw [if_pos c23] at H
                have c23b0 := eq_true c23
                have c23b1 : decide ((t280.extract 0 (t281 : Int).toNat).size + a5.size ≤ 9223372036854775807) = true := decide_eq_true c23
                try have c23b2 : (9223372036854775807 < (t280.extract 0 (t281 : Int).toNat).size + a5.size) = False := eq_false (Nat.not_lt.2 c23)
                have c23b4 := eq_false (by have z_ := Nat.not_lt.2 c23; simp only [ByteArray.size_append, ByteArray.size_extract] at z_; exact z_)
                have c24b0 := eq_true (of_decide_eq_true (by first | (with_reducible assumption) | assumption) : 0 ≤ t281)
                have c25b0 := eq_true (of_decide_eq_true (by first | (with_reducible assumption) | assumption) : t281 ≤ (t280.size : Int))
                by_cases c26 : ((t280.extract 0 (t281 : Int).toNat) ++ a5).size + (t280.extract (t281 : Int).toNat t280.size).size ≤ 9223372036854775807
                · rw [if_pos c26] at H
                  have c26b0 := eq_true c26
                  have c26b1 : decide (((t280.extract 0 (t281 : Int).toNat) ++ a5).size + (t280.extract (t281 : Int).toNat t280.size).size ≤ 9223372036854775807) = true := decide_eq_true c26
                  try have c26b2 : (9223372036854775807 < ((t280.extract 0 (t281 : Int).toNat) ++ a5).size + (t280.extract (t281 : Int).toNat t280.size).size) = False := eq_false (Nat.not_lt.2 c26)
                  have c26b3 : (9223372036854775807 < (t280.extract 0 (t281 : Int).toNat).size + a5.size + (t280.extract (t281 : Int).toNat t280.size).size) = False := eq_false (by have z_ := c26; (try simp only [ByteArray.size_append] at z_ ⊢); simp only [Nat.not_lt]; exact z_)
                  have c26b8 : (9223372036854775807 < t281.toNat + a5.size) = False := eq_false (by have z_ := c23; have y0_ : 0 ≤ t281 := of_decide_eq_true (by assumption); have y1_ : t281 ≤ (t280.size : Int) := of_decide_eq_true (by assumption); simp only [ByteArray.size_append, ByteArray.size_extract] at z_; omega)
                  have c26b9 : (9223372036854775807 < t281.toNat + a5.size + (t280.size - t281.toNat)) = False := eq_false (by have z_ := c26; have y0_ : 0 ≤ t281 := of_decide_eq_true (by assumption); have y1_ : t281 ≤ (t280.size : Int) := of_decide_eq_true (by assumption); simp only [ByteArray.size_append, ByteArray.size_extract] at z_; omega)
                  have c26b4 := eq_false (by have z_ := Nat.not_lt.2 c26; simp only [ByteArray.size_append, ByteArray.size_extract] at z_; exact z_)
                  by_cases c27 : t280.size + 1 ≤ 9223372036854775807
                  · rw [if_pos c27] at H
                    have c27b0 := eq_true c27
                    have c27b1 : decide (t280.size + 1 ≤ 9223372036854775807) = true := decide_eq_true c27
                    try have c27b2 : (9223372036854775807 < t280.size + 1) = False := eq_false (Nat.not_lt.2 c27)
                    by_cases c28 : (t280 ++ (⟨#[32]⟩ : ByteArray)).size + a6.size ≤ 9223372036854775807
                    · rw [if_pos c28] at H
                      have c28b0 := eq_true c28
                      have c28b1 : decide ((t280 ++ (⟨#[32]⟩ : ByteArray)).size + a6.size ≤ 9223372036854775807) = true := decide_eq_true c28
                      try have c28b2 : (9223372036854775807 < (t280 ++ (⟨#[32]⟩ : ByteArray)).size + a6.size) = False := eq_false (Nat.not_lt.2 c28)
                      have c28b3 : (9223372036854775807 < t280.size + 1 + a6.size) = False := eq_false (by have z_ := c28; (try simp only [ByteArray.size_append] at z_ ⊢); simp only [Nat.not_lt]; exact z_)
                      by_cases c29 : 1 + a6.size ≤ 9223372036854775807
                      · rw [if_pos c29] at H
                        have c29b0 := eq_true c29
                        have c29b1 : decide (1 + a6.size ≤ 9223372036854775807) = true := decide_eq_true c29
                        try have c29b2 : (9223372036854775807 < 1 + a6.size) = False := eq_false (Nat.not_lt.2 c29)
                        by_cases c30 : ((⟨#[60]⟩ : ByteArray) ++ a6).size + 1 ≤ 9223372036854775807
                        · rw [if_pos c30] at H
                          have c30b0 := eq_true c30
                          have c30b1 : decide (((⟨#[60]⟩ : ByteArray) ++ a6).size + 1 ≤ 9223372036854775807) = true := decide_eq_true c30
                          try have c30b2 : (9223372036854775807 < ((⟨#[60]⟩ : ByteArray) ++ a6).size + 1) = False := eq_false (Nat.not_lt.2 c30)
                          have c30b3 : (9223372036854775807 < 1 + a6.size + 1) = False := eq_false (by have z_ := c30; (try simp only [ByteArray.size_append] at z_ ⊢); simp only [Nat.not_lt]; exact z_)
                          by_cases c31 : 2 + a6.size ≤ 9223372036854775807
                          · rw [if_pos c31] at H
                            have c31b0 := eq_true c31
                            have c31b1 : decide (2 + a6.size ≤ 9223372036854775807) = true := decide_eq_true c31
                            try have c31b2 : (9223372036854775807 < 2 + a6.size) = False := eq_false (Nat.not_lt.2 c31)
                            obtain ⟨y283, hy283⟩ : ∃ y_ : List ByteArray, y_ = (([t282, t280.extract 0 (t281 : Int).toNat, ((t280.extract 0 (t281 : Int).toNat) ++ a5) ++ (t280.extract (t281 : Int).toNat t280.size), a6, (t280 ++ (⟨#[32]⟩ : ByteArray)) ++ a6, ((⟨#[60]⟩ : ByteArray) ++ a6) ++ (⟨#[62]⟩ : ByteArray), (⟨#[60, 47]⟩ : ByteArray) ++ a6, (⟨#[60, 97]⟩ : ByteArray), (⟨#[60, 62]⟩ : ByteArray), (⟨#[60, 47, 62]⟩ : ByteArray), (⟨#[97, 98, 99, 100, 101, 102, 103, 104, 105]⟩ : ByteArray), (⟨#[60, 97, 98, 99, 100, 101, 102, 103, 104, 105, 62]⟩ : ByteArray), (⟨#[122, 122]⟩ : ByteArray), (⟨#[60, 122, 122, 62]⟩ : ByteArray), (⟨#[97, 62]⟩ : ByteArray), (⟨#[60, 32, 97, 62]⟩ : ByteArray)] : List ByteArray)) := ⟨_, rfl⟩
                            replace H : (canopylaw1_WordReads.l0 kj9 t274 y283 0) = some r := by first | (rw [hy283]; with_reducible exact H) | (have H2_ := (Option.bind_some _ _).symm.trans H; rw [hy283]; with_reducible exact H2_) | (have H2_ := (Option.bind_some _ _).symm.trans H; with_reducible exact H2_) | with_reducible exact H | (rw [hy283]; exact H) | exact H
                            have Ny283 := Aside0.mk hy283
                            clear hy283
                            have H' := Aside0.mk H
                            clear H
                            try go_wp2_with (first | ((with_reducible refine gate_callee (f := 14) rfl ?_); refine goesL_ (some 38) rfl rfl Try.func14 (by kernel_rfl) rfl #[.int .i64 a0, .slice A1 l1.length c1] rfl (by (try simp only [List.map_toArray, List.map_cons, List.map_nil]); first | done | rfl | (simp only [List.length_drop, List.length_take]; rfl)) ?_; (with_reducible refine (canopylaw1_Syms.calls a0 _ _ l1 t274 _ ?side1 ?side2 A14.out).mono ?_); (case side1 => repeat (first | exact (Kd.C_below HR1.out HB.out) | (with_reducible refine Kd.C_alloc ?_ _) | (with_reducible refine Kd.C_drewN ?_ _) | (with_reducible refine Kd.C_drew ?_))); (case side2 => exact HC1.out); rintro e w32 ⟨v275, rfl, ho0, hb⟩; refine ⟨_, rfl, ?_⟩; have n0_ := Aside0.mk (Kd.R_lower ho0 (below_size (by repeat (first | (with_reducible first | exact HB.out | apply below_alloc | apply pw_below_drewN | apply below_drew1) | exact HB.out)))); have n1_ := Aside0.mk (below_step (by repeat (first | (with_reducible first | exact HB.out | apply below_alloc | apply pw_below_drewN | apply below_drew1) | exact HB.out)) hb); clear HB; have HO276 := n0_; have HB := n1_; clear n0_ n1_; (try clear hb); (try clear hb2); (try clear hk); (try clear hi); (try clear ho0); obtain ⟨Ao33, co33, eo33⟩ := Kd.R_slice HO276.out; subst eo33) | ((with_reducible refine gate_callee (f := 15) rfl ?_); refine goesL_ (some 42) rfl rfl Try.func15 (by kernel_rfl) rfl #[.slice Ao33 t274.length co33, .slice A1 l1.length c1, .int .i64 12] rfl (by (try simp only [List.map_toArray, List.map_cons, List.map_nil]); first | done | rfl | (simp only [List.length_drop, List.length_take]; rfl)) ?_; (with_reducible refine (canopylaw1_Word.calls kj9 _ _ t274 _ _ l1 12 t277 _ ?side1 ?side2 ?side3 ?side4 A15.out).mono ?_); (case side1 => repeat (first | exact (Kd.R_reads' HO276.out).2.2 | (with_reducible refine Kd.C_alloc ?_ _) | (with_reducible refine Kd.C_drewN ?_ _) | (with_reducible refine Kd.C_drew ?_))); (case side2 => exact (Kd.R_reads' HO276.out).2.1); (case side3 => repeat (first | exact (Kd.C_below HR1.out HB.out) | (with_reducible refine Kd.C_alloc ?_ _) | (with_reducible refine Kd.C_drewN ?_ _) | (with_reducible refine Kd.C_drew ?_))); (case side4 => exact HC1.out); rintro e w34 ⟨v278, rfl, ho0, hb⟩; refine ⟨_, rfl, ?_⟩; have n0_ := Aside0.mk (Kd.R_below (by (with_reducible repeat (first | apply Kd.R_alloc | apply Kd.R_drewN | apply Kd.R_drew)); exact HO276.out) hb); have n1_ := Aside0.mk (Kd.R_lower ho0 (below_size (by repeat (first | (with_reducible first | exact HB.out | apply below_alloc | apply pw_below_drewN | apply below_drew1) | exact HB.out)))); have n2_ := Aside0.mk (below_step (by repeat (first | (with_reducible first | exact HB.out | apply below_alloc | apply pw_below_drewN | apply below_drew1) | exact HB.out)) hb); clear HO276; clear HB; have HO276 := n0_; have HO279 := n1_; have HB := n2_; clear n0_ n1_ n2_; (try clear hb); (try clear hb2); (try clear hk); (try clear hi); (try clear ho0); obtain ⟨Ao35, co35, eo35⟩ := Kd.R_slice HO279.out; subst eo35) | ((with_reducible refine gate_callee (f := 19) rfl ?_); refine goesL_ (some 43) rfl rfl Try.func19 (by kernel_rfl) rfl #[.slice Ao33 t274.length co33, .slice Ao35 t277.length co35] rfl (by (try simp only [List.map_toArray, List.map_cons, List.map_nil]); first | done | rfl | (simp only [List.length_drop, List.length_take]; rfl)) ?_; (with_reducible refine (canopyref1_Text.calls kj9 _ _ t274 _ _ t277 t280 _ ?side1 ?side2 ?side3 ?side4 A16.out).mono ?_); (case side1 => repeat (first | exact (Kd.R_reads' HO276.out).2.2 | (with_reducible refine Kd.C_alloc ?_ _) | (with_reducible refine Kd.C_drewN ?_ _) | (with_reducible refine Kd.C_drew ?_))); (case side2 => exact (Kd.R_reads' HO276.out).2.1); (case side3 => repeat (first | exact (Kd.R_reads' HO279.out).2.2 | (with_reducible refine Kd.C_alloc ?_ _) | (with_reducible refine Kd.C_drewN ?_ _) | (with_reducible refine Kd.C_drew ?_))); (case side4 => exact (Kd.R_reads' HO279.out).2.1); rintro e w36 ⟨rfl, hb⟩; refine ⟨_, rfl, ?_⟩; have n0_ := Aside0.mk (Kd.R_below (by (with_reducible repeat (first | apply Kd.R_alloc | apply Kd.R_drewN | apply Kd.R_drew)); exact HO276.out) hb); have n1_ := Aside0.mk (Kd.R_below (by (with_reducible repeat (first | apply Kd.R_alloc | apply Kd.R_drewN | apply Kd.R_drew)); exact HO279.out) hb); have n2_ := Aside0.mk (below_step (by repeat (first | (with_reducible first | exact HB.out | apply below_alloc | apply pw_below_drewN | apply below_drew1) | exact HB.out)) hb); clear HO276; clear HO279; clear HB; have HO276 := n0_; have HO279 := n1_; have HB := n2_; clear n0_ n1_ n2_; (try clear hb); (try clear hb2); (try clear hk); (try clear hi)) | ((with_reducible refine gate_callee (f := 18) rfl ?_); refine goesL_ (some 48) rfl rfl Try.func18 (by kernel_rfl) rfl #[.int .i64 a4, .int .i64 ((t280.size : Int) + 1)] rfl (by (try simp only [List.map_toArray, List.map_cons, List.map_nil]); first | done | rfl | (simp only [List.length_drop, List.length_take]; rfl)) ?_; (with_reducible refine (canopylaw1_within.calls a4 ((t280.size : Int) + 1) t281 _ (by have h_ := A17.out; rw [show wrap64 ((t280.size : Int) + 1) = (t280.size : Int) + 1 by unfold wrap64; omega] at h_; exact h_)).mono ?_); rintro e w' ⟨rfl, rfl⟩; refine ⟨_, rfl, ?_⟩) | (go_at_call 14; (with_reducible refine (canopylaw1_Syms.calls a0 _ _ l1 t274 _ ?side1 ?side2 A14.out).mono ?_); (case side1 => repeat (first | exact (Kd.C_below HR1.out HB.out) | (with_reducible refine Kd.C_alloc ?_ _) | (with_reducible refine Kd.C_drewN ?_ _) | (with_reducible refine Kd.C_drew ?_))); (case side2 => exact HC1.out); rintro e w32 ⟨v275, rfl, ho0, hb⟩; have n0_ := Aside0.mk (Kd.R_lower ho0 (below_size (by repeat (first | (with_reducible first | exact HB.out | apply below_alloc | apply pw_below_drewN | apply below_drew1) | exact HB.out)))); have n1_ := Aside0.mk (below_step (by repeat (first | (with_reducible first | exact HB.out | apply below_alloc | apply pw_below_drewN | apply below_drew1) | exact HB.out)) hb); clear HB; have HO276 := n0_; have HB := n1_; clear n0_ n1_; (try clear hb); (try clear hb2); (try clear hk); (try clear hi); (try clear ho0); obtain ⟨Ao33, co33, eo33⟩ := Kd.R_slice HO276.out; subst eo33) | (go_at_call 15; (with_reducible refine (canopylaw1_Word.calls kj9 _ _ t274 _ _ l1 12 t277 _ ?side1 ?side2 ?side3 ?side4 A15.out).mono ?_); (case side1 => repeat (first | exact (Kd.R_reads' HO276.out).2.2 | (with_reducible refine Kd.C_alloc ?_ _) | (with_reducible refine Kd.C_drewN ?_ _) | (with_reducible refine Kd.C_drew ?_))); (case side2 => exact (Kd.R_reads' HO276.out).2.1); (case side3 => repeat (first | exact (Kd.C_below HR1.out HB.out) | (with_reducible refine Kd.C_alloc ?_ _) | (with_reducible refine Kd.C_drewN ?_ _) | (with_reducible refine Kd.C_drew ?_))); (case side4 => exact HC1.out); rintro e w34 ⟨v278, rfl, ho0, hb⟩; have n0_ := Aside0.mk (Kd.R_below (by (with_reducible repeat (first | apply Kd.R_alloc | apply Kd.R_drewN | apply Kd.R_drew)); exact HO276.out) hb); have n1_ := Aside0.mk (Kd.R_lower ho0 (below_size (by repeat (first | (with_reducible first | exact HB.out | apply below_alloc | apply pw_below_drewN | apply below_drew1) | exact HB.out)))); have n2_ := Aside0.mk (below_step (by repeat (first | (with_reducible first | exact HB.out | apply below_alloc | apply pw_below_drewN | apply below_drew1) | exact HB.out)) hb); clear HO276; clear HB; have HO276 := n0_; have HO279 := n1_; have HB := n2_; clear n0_ n1_ n2_; (try clear hb); (try clear hb2); (try clear hk); (try clear hi); (try clear ho0); obtain ⟨Ao35, co35, eo35⟩ := Kd.R_slice HO279.out; subst eo35) | (go_at_call 19; (with_reducible refine (canopyref1_Text.calls kj9 _ _ t274 _ _ t277 t280 _ ?side1 ?side2 ?side3 ?side4 A16.out).mono ?_); (case side1 => repeat (first | exact (Kd.R_reads' HO276.out).2.2 | (with_reducible refine Kd.C_alloc ?_ _) | (with_reducible refine Kd.C_drewN ?_ _) | (with_reducible refine Kd.C_drew ?_))); (case side2 => exact (Kd.R_reads' HO276.out).2.1); (case side3 => repeat (first | exact (Kd.R_reads' HO279.out).2.2 | (with_reducible refine Kd.C_alloc ?_ _) | (with_reducible refine Kd.C_drewN ?_ _) | (with_reducible refine Kd.C_drew ?_))); (case side4 => exact (Kd.R_reads' HO279.out).2.1); rintro e w36 ⟨rfl, hb⟩; have n0_ := Aside0.mk (Kd.R_below (by (with_reducible repeat (first | apply Kd.R_alloc | apply Kd.R_drewN | apply Kd.R_drew)); exact HO276.out) hb); have n1_ := Aside0.mk (Kd.R_below (by (with_reducible repeat (first | apply Kd.R_alloc | apply Kd.R_drewN | apply Kd.R_drew)); exact HO279.out) hb); have n2_ := Aside0.mk (below_step (by repeat (first | (with_reducible first | exact HB.out | apply below_alloc | apply pw_below_drewN | apply below_drew1) | exact HB.out)) hb); clear HO276; clear HO279; clear HB; have HO276 := n0_; have HO279 := n1_; have HB := n2_; clear n0_ n1_ n2_; (try clear hb); (try clear hb2); (try clear hk); (try clear hi)) | (go_at_call 18; (with_reducible refine (canopylaw1_within.calls a4 ((t280.size : Int) + 1) t281 _ (by have h_ := A17.out; rw [show wrap64 ((t280.size : Int) + 1) = (t280.size : Int) + 1 by unfold wrap64; omega] at h_; exact h_)).mono ?_); rintro e w' ⟨rfl, rfl⟩))
                            (try (rw [drewN_self w36]; generalize hq_ : World.drewN w36 _ = w36; have n0_ : Aside0 (Kd.R k40 40 w36 w.heap.size (fun _ => True) (.slice Ao33 t274.length co33) t274) := ⟨by rw [← hq_]; exact (by (with_reducible repeat (first | apply Kd.R_alloc | apply Kd.R_drewN | apply Kd.R_drew)); exact HO276.out)⟩; have n1_ : Aside0 (Kd.R (Kd.int .i64) 3 w36 w.heap.size (fun _ => True) (.slice Ao35 t277.length co35) t277) := ⟨by rw [← hq_]; exact (by (with_reducible repeat (first | apply Kd.R_alloc | apply Kd.R_drewN | apply Kd.R_drew)); exact HO279.out)⟩; have n2_ : Aside0 (Below w.heap.size w w36) := ⟨by rw [← hq_]; exact (by repeat (first | (with_reducible first | exact HB.out | apply below_alloc | apply pw_below_drewN | apply below_drew1) | exact HB.out))⟩; clear HO276 HO279 HB hq_; have HO276 := n0_; have HO279 := n1_; have HB := n2_; clear n0_ n1_ n2_))
                            have n0_ := Aside0.mk (Kd.R_drew HO276.out)
                            have n1_ := Aside0.mk (Kd.R_drew HO279.out)
                            have n2_ := Aside0.mk (below_drew1 HB.out)
                            clear HO276
                            clear HO279
                            clear HB
                            have HO276 := n0_
                            have HO279 := n1_
                            have HB := n2_
                            clear n0_ n1_ n2_
                            refine start_ (n := 28) (S := fun w' => True) (ds := []) #[false, false, false, false, false, false, false, false, false, false, false, false, false, false, false, false, false, false, false, false, false, false, false, false, false, false, false, false] (by kernel_rfl) rfl rfl trivial (fun hHeld => ?_); refine with_tabW canopylaw1_WordReads.tab8 canopylaw1_WordReads.bits8 (fun HT_ HW_ => ?_)
                            generalize w36.drew = w37 at HO276 HO279 HB hHeld ⊢
                            refine pure_ (i := 0) (N := some 49) (v := ?_) (a' := ?_) #[true, false, false, false, false, false, false, false, false, false, false, false, false, false, false, false, false, false, false, false, false, false, false, false, false, false, false, false] rfl rfl (any_of HT_.out (by kernel_rfl)) (fun _ _ _ h => h) (Or.inl ⟨by rfl, ?_⟩) ?_ ?_
                            rotate_left
                            · intro w'
                              go_simp
                              with_reducible rfl
                            rotate_left
                            · simp only [Act.put, List.setIfInBounds_toArray, List.set_cons_zero, List.set_cons_succ, i64_w, i32_w]
                              rfl
                            refine pure_ (i := 1) (N := some 50) (v := ?_) (a' := ?_) #[true, true, false, false, false, false, false, false, false, false, false, false, false, false, false, false, false, false, false, false, false, false, false, false, false, false, false, false] rfl rfl (any_of HT_.out (by kernel_rfl)) (fun _ _ _ h => h) (Or.inl ⟨by rfl, ?_⟩) ?_ ?_
                            rotate_left
                            · intro w'
                              go_simp
                              with_reducible rfl
                            rotate_left
                            · simp only [Act.put, List.setIfInBounds_toArray, List.set_cons_zero, List.set_cons_succ, i64_w, i32_w]
                              rfl
                            refine pure_ (i := 2) (N := some 51) (v := ?_) (a' := ?_) #[true, true, true, false, false, false, false, false, false, false, false, false, false, false, false, false, false, false, false, false, false, false, false, false, false, false, false, false] rfl rfl (any_of HT_.out (by kernel_rfl)) (fun _ _ _ h => h) (Or.inl ⟨by rfl, ?_⟩) ?_ ?_
                            rotate_left
                            · intro w'
                              go_simp
                              with_reducible rfl
                            rotate_left
                            · simp only [Act.put, List.setIfInBounds_toArray, List.set_cons_zero, List.set_cons_succ, i64_w, i32_w]
                              rfl
                            refine pure_ (i := 4) (N := some 53) (v := ?_) (a' := ?_) #[true, true, true, false, true, false, false, false, false, false, false, false, false, false, false, false, false, false, false, false, false, false, false, false, false, false, false, false] rfl rfl (any_of HT_.out (by kernel_rfl)) (fun _ _ _ h => h) (Or.inl ⟨by rfl, ?_⟩) ?_ ?_
                            rotate_left
                            · intro w'
                              go_simp
                              with_reducible rfl
                            rotate_left
                            · simp only [Act.put, List.setIfInBounds_toArray, List.set_cons_zero, List.set_cons_succ, i64_w, i32_w]
                              rfl
                            refine pure_ (i := 5) (N := some 54) (v := ?_) (a' := ?_) #[true, true, true, false, true, true, false, false, false, false, false, false, false, false, false, false, false, false, false, false, false, false, false, false, false, false, false, false] rfl rfl (any_of HT_.out (by kernel_rfl)) (fun _ _ _ h => h) (Or.inl ⟨by rfl, ?_⟩) ?_ ?_
                            rotate_left
                            · intro w'
                              go_simp
                              with_reducible rfl
                            rotate_left
                            · simp only [Act.put, List.setIfInBounds_toArray, List.set_cons_zero, List.set_cons_succ, i64_w, i32_w]
                              rfl
                            refine pure_ (i := 6) (N := some 55) (v := ?_) (a' := ?_) #[true, true, true, false, true, true, true, false, false, false, false, false, false, false, false, false, false, false, false, false, false, false, false, false, false, false, false, false] rfl rfl (any_of HT_.out (by kernel_rfl)) (fun _ _ _ h => h) (Or.inl ⟨by rfl, ?_⟩) ?_ ?_
                            rotate_left
                            · intro w'
                              go_simp
                              with_reducible rfl
                            rotate_left
                            · simp only [Act.put, List.setIfInBounds_toArray, List.set_cons_zero, List.set_cons_succ, i64_w, i32_w]
                              rfl
                            refine pure_ (i := 7) (N := some 56) (v := ?_) (a' := ?_) #[true, true, true, false, true, true, true, true, false, false, false, false, false, false, false, false, false, false, false, false, false, false, false, false, false, false, false, false] rfl rfl (any_of HT_.out (by kernel_rfl)) (fun _ _ _ h => h) (Or.inl ⟨by rfl, ?_⟩) ?_ ?_
                            rotate_left
                            · intro w'
                              go_simp
                              with_reducible rfl
                            rotate_left
                            · simp only [Act.put, List.setIfInBounds_toArray, List.set_cons_zero, List.set_cons_succ, i64_w, i32_w]
                              rfl
                            refine pure_ (i := 8) (N := some 57) (v := ?_) (a' := ?_) #[true, true, true, false, true, true, true, true, true, false, false, false, false, false, false, false, false, false, false, false, false, false, false, false, false, false, false, false] rfl rfl (any_of HT_.out (by kernel_rfl)) (fun _ _ _ h => h) (Or.inl ⟨by rfl, ?_⟩) ?_ ?_
                            rotate_left
                            · intro w'
                              go_simp
                              with_reducible rfl
                            rotate_left
                            · simp only [Act.put, List.setIfInBounds_toArray, List.set_cons_zero, List.set_cons_succ, i64_w, i32_w]
                              rfl
                            refine pure_ (i := 9) (N := some 58) (v := ?_) (a' := ?_) #[true, true, true, false, true, true, true, true, true, true, false, false, false, false, false, false, false, false, false, false, false, false, false, false, false, false, false, false] rfl rfl (any_of HT_.out (by kernel_rfl)) (fun _ _ _ h => h) (Or.inl ⟨by rfl, ?_⟩) ?_ ?_
                            rotate_left
                            · intro w'
                              go_simp
                              with_reducible rfl
                            rotate_left
                            · simp only [Act.put, List.setIfInBounds_toArray, List.set_cons_zero, List.set_cons_succ, i64_w, i32_w]
                              rfl
                            refine pure_ (i := 10) (N := some 59) (v := ?_) (a' := ?_) #[true, true, true, false, true, true, true, true, true, true, true, false, false, false, false, false, false, false, false, false, false, false, false, false, false, false, false, false] rfl rfl (any_of HT_.out (by kernel_rfl)) (fun _ _ _ h => h) (Or.inl ⟨by rfl, ?_⟩) ?_ ?_
                            rotate_left
                            · intro w'
                              go_simp
                              with_reducible rfl
                            rotate_left
                            · simp only [Act.put, List.setIfInBounds_toArray, List.set_cons_zero, List.set_cons_succ, i64_w, i32_w]
                              rfl
                            refine pure_ (i := 11) (N := some 60) (v := ?_) (a' := ?_) #[true, true, true, false, true, true, true, true, true, true, true, true, false, false, false, false, false, false, false, false, false, false, false, false, false, false, false, false] rfl rfl (any_of HT_.out (by kernel_rfl)) (fun _ _ _ h => h) (Or.inl ⟨by rfl, ?_⟩) ?_ ?_
                            rotate_left
                            · intro w'
                              go_simp
                              with_reducible rfl
                            rotate_left
                            · simp only [Act.put, List.setIfInBounds_toArray, List.set_cons_zero, List.set_cons_succ, i64_w, i32_w]
                              rfl
                            refine pure_ (i := 12) (N := some 61) (v := ?_) (a' := ?_) #[true, true, true, false, true, true, true, true, true, true, true, true, true, false, false, false, false, false, false, false, false, false, false, false, false, false, false, false] rfl rfl (any_of HT_.out (by kernel_rfl)) (fun _ _ _ h => h) (Or.inl ⟨by rfl, ?_⟩) ?_ ?_
                            rotate_left
                            · intro w'
                              go_simp
                              with_reducible rfl
                            rotate_left
                            · simp only [Act.put, List.setIfInBounds_toArray, List.set_cons_zero, List.set_cons_succ, i64_w, i32_w]
                              rfl
                            refine pure_ (i := 13) (N := some 62) (v := ?_) (a' := ?_) #[true, true, true, false, true, true, true, true, true, true, true, true, true, true, false, false, false, false, false, false, false, false, false, false, false, false, false, false] rfl rfl (any_of HT_.out (by kernel_rfl)) (fun _ _ _ h => h) (Or.inl ⟨by rfl, ?_⟩) ?_ ?_
                            rotate_left
                            · intro w'
                              go_simp
                              with_reducible rfl
                            rotate_left
                            · simp only [Act.put, List.setIfInBounds_toArray, List.set_cons_zero, List.set_cons_succ, i64_w, i32_w]
                              rfl
                            refine pure_ (i := 14) (N := some 63) (v := ?_) (a' := ?_) #[true, true, true, false, true, true, true, true, true, true, true, true, true, true, true, false, false, false, false, false, false, false, false, false, false, false, false, false] rfl rfl (any_of HT_.out (by kernel_rfl)) (fun _ _ _ h => h) (Or.inl ⟨by rfl, ?_⟩) ?_ ?_
                            rotate_left
                            · intro w'
                              go_simp
                              with_reducible rfl
                            rotate_left
                            · simp only [Act.put, List.setIfInBounds_toArray, List.set_cons_zero, List.set_cons_succ, i64_w, i32_w]
                              rfl
                            refine pure_ (i := 15) (N := some 64) (v := ?_) (a' := ?_) #[true, true, true, false, true, true, true, true, true, true, true, true, true, true, true, true, false, false, false, false, false, false, false, false, false, false, false, false] rfl rfl (any_of HT_.out (by kernel_rfl)) (fun _ _ _ h => h) (Or.inl ⟨by rfl, ?_⟩) ?_ ?_
                            rotate_left
                            · intro w'
                              go_simp
                              with_reducible rfl
                            rotate_left
                            · simp only [Act.put, List.setIfInBounds_toArray, List.set_cons_zero, List.set_cons_succ, i64_w, i32_w]
                              rfl
                            refine pure_ (i := 16) (N := some 65) (v := ?_) (a' := ?_) #[true, true, true, false, true, true, true, true, true, true, true, true, true, true, true, true, true, false, false, false, false, false, false, false, false, false, false, false] rfl rfl (any_of HT_.out (by kernel_rfl)) (fun _ _ _ h => h) (Or.inl ⟨by rfl, ?_⟩) ?_ ?_
                            rotate_left
                            · intro w'
                              go_simp
                              with_reducible rfl
                            rotate_left
                            · simp only [Act.put, List.setIfInBounds_toArray, List.set_cons_zero, List.set_cons_succ, i64_w, i32_w]
                              rfl
                            refine pure_ (i := 17) (N := some 66) (v := ?_) (a' := ?_) #[true, true, true, false, true, true, true, true, true, true, true, true, true, true, true, true, true, true, false, false, false, false, false, false, false, false, false, false] rfl rfl (any_of HT_.out (by kernel_rfl)) (fun _ _ _ h => h) (Or.inl ⟨by rfl, ?_⟩) ?_ ?_
                            rotate_left
                            · intro w'
                              go_simp
                              with_reducible rfl
                            rotate_left
                            · simp only [Act.put, List.setIfInBounds_toArray, List.set_cons_zero, List.set_cons_succ, i64_w, i32_w]
                              rfl
                            refine pure_ (i := 18) (N := some 67) (v := ?_) (a' := ?_) #[true, true, true, false, true, true, true, true, true, true, true, true, true, true, true, true, true, true, true, false, false, false, false, false, false, false, false, false] rfl rfl (any_of HT_.out (by kernel_rfl)) (fun _ _ _ h => h) (Or.inl ⟨by rfl, ?_⟩) ?_ ?_
                            rotate_left
                            · intro w'
                              go_simp
                              with_reducible rfl
                            rotate_left
                            · simp only [Act.put, List.setIfInBounds_toArray, List.set_cons_zero, List.set_cons_succ, i64_w, i32_w]
                              rfl
                            refine pure_ (i := 19) (N := some 68) (v := ?_) (a' := ?_) #[true, true, true, false, true, true, true, true, true, true, true, true, true, true, true, true, true, true, true, true, false, false, false, false, false, false, false, false] rfl rfl (any_of HT_.out (by kernel_rfl)) (fun _ _ _ h => h) (Or.inl ⟨by rfl, ?_⟩) ?_ ?_
                            rotate_left
                            · intro w'
                              go_simp
                              with_reducible rfl
                            rotate_left
                            · simp only [Act.put, List.setIfInBounds_toArray, List.set_cons_zero, List.set_cons_succ, i64_w, i32_w]
                              rfl
                            refine pure_ (i := 20) (N := some 69) (v := ?_) (a' := ?_) #[true, true, true, false, true, true, true, true, true, true, true, true, true, true, true, true, true, true, true, true, true, false, false, false, false, false, false, false] rfl rfl (any_of HT_.out (by kernel_rfl)) (fun _ _ _ h => h) (Or.inl ⟨by rfl, ?_⟩) ?_ ?_
                            rotate_left
                            · intro w'
                              go_simp
                              with_reducible rfl
                            rotate_left
                            · simp only [Act.put, List.setIfInBounds_toArray, List.set_cons_zero, List.set_cons_succ, i64_w, i32_w]
                              rfl
                            refine pure_ (i := 21) (N := some 70) (v := ?_) (a' := ?_) #[true, true, true, false, true, true, true, true, true, true, true, true, true, true, true, true, true, true, true, true, true, true, false, false, false, false, false, false] rfl rfl (any_of HT_.out (by kernel_rfl)) (fun _ _ _ h => h) (Or.inl ⟨by rfl, ?_⟩) ?_ ?_
                            rotate_left
                            · intro w'
                              go_simp
                              with_reducible rfl
                            rotate_left
                            · simp only [Act.put, List.setIfInBounds_toArray, List.set_cons_zero, List.set_cons_succ, i64_w, i32_w]
                              rfl
                            refine pure_ (i := 22) (N := some 71) (v := ?_) (a' := ?_) #[true, true, true, false, true, true, true, true, true, true, true, true, true, true, true, true, true, true, true, true, true, true, true, false, false, false, false, false] rfl rfl (any_of HT_.out (by kernel_rfl)) (fun _ _ _ h => h) (Or.inl ⟨by rfl, ?_⟩) ?_ ?_
                            rotate_left
                            · intro w'
                              go_simp
                              with_reducible rfl
                            rotate_left
                            · simp only [Act.put, List.setIfInBounds_toArray, List.set_cons_zero, List.set_cons_succ, i64_w, i32_w]
                              rfl
                            refine pure_ (i := 23) (N := some 72) (v := ?_) (a' := ?_) #[true, true, true, false, true, true, true, true, true, true, true, true, true, true, true, true, true, true, true, true, true, true, true, true, false, false, false, false] rfl rfl (any_of HT_.out (by kernel_rfl)) (fun _ _ _ h => h) (Or.inl ⟨by rfl, ?_⟩) ?_ ?_
                            rotate_left
                            · intro w'
                              go_simp
                              with_reducible rfl
                            rotate_left
                            · simp only [Act.put, List.setIfInBounds_toArray, List.set_cons_zero, List.set_cons_succ, i64_w, i32_w]
                              rfl
                            refine pure_ (i := 24) (N := some 73) (v := ?_) (a' := ?_) #[true, true, true, false, true, true, true, true, true, true, true, true, true, true, true, true, true, true, true, true, true, true, true, true, true, false, false, false] rfl rfl (any_of HT_.out (by kernel_rfl)) (fun _ _ _ h => h) (Or.inl ⟨by rfl, ?_⟩) ?_ ?_
                            rotate_left
                            · intro w'
                              go_simp
                              with_reducible rfl
                            rotate_left
                            · simp only [Act.put, List.setIfInBounds_toArray, List.set_cons_zero, List.set_cons_succ, i64_w, i32_w]
                              rfl
                            refine pure_ (i := 25) (N := some 74) (v := ?_) (a' := ?_) #[true, true, true, false, true, true, true, true, true, true, true, true, true, true, true, true, true, true, true, true, true, true, true, true, true, true, false, false] rfl rfl (any_of HT_.out (by kernel_rfl)) (fun _ _ _ h => h) (Or.inl ⟨by rfl, ?_⟩) ?_ ?_
                            rotate_left
                            · intro w'
                              go_simp
                              with_reducible rfl
                            rotate_left
                            · simp only [Act.put, List.setIfInBounds_toArray, List.set_cons_zero, List.set_cons_succ, i64_w, i32_w]
                              rfl
                            refine one_ (i := 3) (N := some 52) #[true, true, true, true, true, true, true, true, true, true, true, true, true, true, true, true, true, true, true, true, true, true, true, true, true, true, false, false] rfl rfl (one_of HT_.out (by kernel_rfl)) (by decide) (fun K hK => ?_)
                            refine goes_ Try.func21 (by kernel_rfl) rfl #[.string t280, .int .i64 a2, .int .u8 a3] (by rfl) rfl rfl (by (try simp only [List.map_toArray, List.map_cons, List.map_nil]); first | done | rfl | (simp only [List.length_drop, List.length_take]; rfl)) ?_
                            with_reducible refine (canopylaw1_turned.calls t280 a2 a3 t282 _ A18.out).mono ?_
                            rintro e w38 ⟨rfl, hb⟩
                            refine ⟨_, rfl, ?_⟩
                            have n0_ := Aside0.mk (Kd.R_below (by (with_reducible repeat (first | apply Kd.R_alloc | apply Kd.R_drewN | apply Kd.R_drew)); exact HO276.out) hb)
                            have n1_ := Aside0.mk (Kd.R_below (by (with_reducible repeat (first | apply Kd.R_alloc | apply Kd.R_drewN | apply Kd.R_drew)); exact HO279.out) hb)
                            have n2_ := Aside0.mk (below_step (by repeat (first | (with_reducible first | exact HB.out | apply below_alloc | apply pw_below_drewN | apply below_drew1) | exact HB.out)) hb)
                            clear HO276
                            clear HO279
                            clear HB
                            have HO276 := n0_
                            have HO279 := n1_
                            have HB := n2_
                            clear n0_ n1_ n2_
                            (try clear hb)
                            (try clear hb2)
                            (try clear hk)
                            (try clear hi)
                            refine hK.out _ _ trivial (fun hHeld => ?_)
                            clear hK K
                            refine norm_ (a' := ?_) ?_ ?_
                            rotate_left
                            · show Act.put _ (some 52) _ = _
                              simp only [Act.put, List.setIfInBounds_toArray, List.set_cons_zero, List.set_cons_succ, i64_w, i32_w]
                              rfl
                            refine one_ (i := 26) (N := some 75) #[true, true, true, true, true, true, true, true, true, true, true, true, true, true, true, true, true, true, true, true, true, true, true, true, true, true, true, false] rfl rfl (one_of HT_.out (by kernel_rfl)) (by decide) (fun K hK => ?_)
                            refine Kd.R_lit_step Kd.string _ 9 ?hg (N := 75) ?hd (xs := ([t282, t280.extract 0 (t281 : Int).toNat, ((t280.extract 0 (t281 : Int).toNat) ++ a5) ++ (t280.extract (t281 : Int).toNat t280.size), a6, (t280 ++ (⟨#[32]⟩ : ByteArray)) ++ a6, ((⟨#[60]⟩ : ByteArray) ++ a6) ++ (⟨#[62]⟩ : ByteArray), (⟨#[60, 47]⟩ : ByteArray) ++ a6, (⟨#[60, 97]⟩ : ByteArray), (⟨#[60, 62]⟩ : ByteArray), (⟨#[60, 47, 62]⟩ : ByteArray), (⟨#[97, 98, 99, 100, 101, 102, 103, 104, 105]⟩ : ByteArray), (⟨#[60, 97, 98, 99, 100, 101, 102, 103, 104, 105, 62]⟩ : ByteArray), (⟨#[122, 122]⟩ : ByteArray), (⟨#[60, 122, 122, 62]⟩ : ByteArray), (⟨#[97, 62]⟩ : ByteArray), (⟨#[60, 32, 97, 62]⟩ : ByteArray)] : List ByteArray)) (inner := [.string t282, .string (t280.extract 0 (t281 : Int).toNat), .string (((t280.extract 0 (t281 : Int).toNat) ++ a5) ++ (t280.extract (t281 : Int).toNat t280.size)), .string a6, .string ((t280 ++ (⟨#[32]⟩ : ByteArray)) ++ a6), .string (((⟨#[60]⟩ : ByteArray) ++ a6) ++ (⟨#[62]⟩ : ByteArray)), .string ((⟨#[60, 47]⟩ : ByteArray) ++ a6), .string (⟨#[60, 97]⟩ : ByteArray), .string (⟨#[60, 62]⟩ : ByteArray), .string (⟨#[60, 47, 62]⟩ : ByteArray), .string (⟨#[97, 98, 99, 100, 101, 102, 103, 104, 105]⟩ : ByteArray), .string (⟨#[60, 97, 98, 99, 100, 101, 102, 103, 104, 105, 62]⟩ : ByteArray), .string (⟨#[122, 122]⟩ : ByteArray), .string (⟨#[60, 122, 122, 62]⟩ : ByteArray), .string (⟨#[97, 62]⟩ : ByteArray), .string (⟨#[60, 32, 97, 62]⟩ : ByteArray)]) (ok := fun _ => True) (okp := fun _ => True) ?hr ?hp (fun _ hk => hk) trivial (Below.refl _ _) (Nat.le_refl _) (by simp) ?_; (case hd => rfl); (case hg => rfl); (case hr => first | (go_simp; done) | (go_simp; rfl)); (case hp => exact (Reps.one (show Kd.M Kd.string _ _ _ t282 [.string t282] from rfl) (Reps.one (show Kd.M Kd.string _ _ _ (t280.extract 0 (t281 : Int).toNat) [.string (t280.extract 0 (t281 : Int).toNat)] from rfl) (Reps.one (show Kd.M Kd.string _ _ _ (((t280.extract 0 (t281 : Int).toNat) ++ a5) ++ (t280.extract (t281 : Int).toNat t280.size)) [.string (((t280.extract 0 (t281 : Int).toNat) ++ a5) ++ (t280.extract (t281 : Int).toNat t280.size))] from rfl) (Reps.one (show Kd.M Kd.string _ _ _ a6 [.string a6] from rfl) (Reps.one (show Kd.M Kd.string _ _ _ ((t280 ++ (⟨#[32]⟩ : ByteArray)) ++ a6) [.string ((t280 ++ (⟨#[32]⟩ : ByteArray)) ++ a6)] from rfl) (Reps.one (show Kd.M Kd.string _ _ _ (((⟨#[60]⟩ : ByteArray) ++ a6) ++ (⟨#[62]⟩ : ByteArray)) [.string (((⟨#[60]⟩ : ByteArray) ++ a6) ++ (⟨#[62]⟩ : ByteArray))] from rfl) (Reps.one (show Kd.M Kd.string _ _ _ ((⟨#[60, 47]⟩ : ByteArray) ++ a6) [.string ((⟨#[60, 47]⟩ : ByteArray) ++ a6)] from rfl) (Reps.one (show Kd.M Kd.string _ _ _ (⟨#[60, 97]⟩ : ByteArray) [.string (⟨#[60, 97]⟩ : ByteArray)] from rfl) (Reps.one (show Kd.M Kd.string _ _ _ (⟨#[60, 62]⟩ : ByteArray) [.string (⟨#[60, 62]⟩ : ByteArray)] from rfl) (Reps.one (show Kd.M Kd.string _ _ _ (⟨#[60, 47, 62]⟩ : ByteArray) [.string (⟨#[60, 47, 62]⟩ : ByteArray)] from rfl) (Reps.one (show Kd.M Kd.string _ _ _ (⟨#[97, 98, 99, 100, 101, 102, 103, 104, 105]⟩ : ByteArray) [.string (⟨#[97, 98, 99, 100, 101, 102, 103, 104, 105]⟩ : ByteArray)] from rfl) (Reps.one (show Kd.M Kd.string _ _ _ (⟨#[60, 97, 98, 99, 100, 101, 102, 103, 104, 105, 62]⟩ : ByteArray) [.string (⟨#[60, 97, 98, 99, 100, 101, 102, 103, 104, 105, 62]⟩ : ByteArray)] from rfl) (Reps.one (show Kd.M Kd.string _ _ _ (⟨#[122, 122]⟩ : ByteArray) [.string (⟨#[122, 122]⟩ : ByteArray)] from rfl) (Reps.one (show Kd.M Kd.string _ _ _ (⟨#[60, 122, 122, 62]⟩ : ByteArray) [.string (⟨#[60, 122, 122, 62]⟩ : ByteArray)] from rfl) (Reps.one (show Kd.M Kd.string _ _ _ (⟨#[97, 62]⟩ : ByteArray) [.string (⟨#[97, 62]⟩ : ByteArray)] from rfl) (Reps.one (show Kd.M Kd.string _ _ _ (⟨#[60, 32, 97, 62]⟩ : ByteArray) [.string (⟨#[60, 32, 97, 62]⟩ : ByteArray)] from rfl) (Reps.none _ _))))))))))))))))))
                            intro v284 w39 ho40 hb hg_ hnew_
                            clear hg_ hnew_
                            (first | rw [← Ny283.out] at ho40 | (simp only [Int.reduceToNat] at ho40; rw [← Ny283.out] at ho40))
                            have n0_ := Aside0.mk (Kd.R_below (by (with_reducible repeat (first | apply Kd.R_alloc | apply Kd.R_drewN | apply Kd.R_drew)); exact HO276.out) hb)
                            have n1_ := Aside0.mk (Kd.R_below (by (with_reducible repeat (first | apply Kd.R_alloc | apply Kd.R_drewN | apply Kd.R_drew)); exact HO279.out) hb)
                            have n2_ := Aside0.mk (Kd.R_lower ho40 (below_size (by repeat (first | (with_reducible first | exact HB.out | apply below_alloc | apply pw_below_drewN | apply below_drew1) | exact HB.out))))
                            have n3_ := Aside0.mk (below_step (by repeat (first | (with_reducible first | exact HB.out | apply below_alloc | apply pw_below_drewN | apply below_drew1) | exact HB.out)) hb)
                            clear HO276
                            clear HO279
                            clear HB
                            have HO276 := n0_
                            have HO279 := n1_
                            have HO285 := n2_
                            have HB := n3_
                            clear n0_ n1_ n2_ n3_
                            clear hb ho40
                            refine hK.out _ _ trivial (fun hHeld => ?_)
                            clear hK K
                            refine norm_ (a' := ?_) ?_ ?_
                            rotate_left
                            · show Act.put _ (some 75) _ = _
                              simp only [Act.put, List.setIfInBounds_toArray, List.set_cons_zero, List.set_cons_succ, i64_w, i32_w]
                              rfl
                            refine pure_ (i := 27) (N := some 18) (v := ?_) (a' := ?_) #[true, true, true, true, true, true, true, true, true, true, true, true, true, true, true, true, true, true, true, true, true, true, true, true, true, true, true, true] rfl rfl (any_of HT_.out (by kernel_rfl)) (fun _ _ _ h => h) (Or.inl ⟨by rfl, ?_⟩) ?_ ?_
                            rotate_left
                            · intro w'
                              go_simp
                              with_reducible rfl
                            rotate_left
                            · simp only [Act.put, List.setIfInBounds_toArray, List.set_cons_zero, List.set_cons_succ, i64_w, i32_w]
                              rfl
                            refine done_ (done_of HT_.out (by kernel_rfl)) ?_
                            try go_wp2
                            go_loopg [19] kj9 (fun kq v19 w' => ∃ (x19_2 : Int), v19 = .int .i64 x19_2 ∧ Aside0 (canopylaw1_WordReads.l0 kq t274 y283 x19_2 = some r) ∧ Aside0 (kq ≤ kj9) ∧ Aside0 (Kd.R k40 40 w' w.heap.size (fun _ => True) (.slice Ao33 t274.length co33) t274) ∧ Aside0 (Kd.R Kd.string 9 w' w.heap.size (fun _ => True) v284 y283) ∧ Aside0 (Below w.heap.size w w'))
                            case atStart => exact ⟨(0), (by first | rfl | (simp; done) | (simp [*]; done)), H', ⟨Nat.le_refl _⟩, ⟨by (with_reducible repeat (first | apply Kd.R_alloc | apply Kd.R_drewN | apply Kd.R_drew)); exact HO276.out⟩, ⟨by (with_reducible repeat (first | apply Kd.R_alloc | apply Kd.R_drewN | apply Kd.R_drew)); exact HO285.out⟩, ⟨by repeat (first | (with_reducible first | exact HB.out | apply below_alloc | apply pw_below_drewN | apply below_drew1) | exact HB.out)⟩⟩
                            case round =>
                              clear H'
                              try clear c1
                              try clear c2
                              try clear p2
                              try clear c3
                              try clear c4
                              try clear p6
                              try clear c9
                              try clear c12
                              try clear c12b0
                              try clear c12b1
                              try clear c13
                              try clear c14
                              try clear c15
                              try clear c18
                              try clear c19
                              try clear c19b0
                              try clear c19b1
                              try clear c20
                              try clear c20b0
                              try clear c20b1
                              try clear c21
                              try clear c21b0
                              try clear c22
                              try clear c22b0
                              try clear c23
                              try clear c23b0
                              try clear c23b1
                              try clear c23b2
                              try clear c24
                              try clear c24b0
                              try clear c25
                              try clear c25b0
                              try clear c26
                              try clear c26b0
                              try clear c26b1
                              try clear c26b2
                              try clear c27
                              try clear c27b0
                              try clear c27b1
                              try clear c27b2
                              try clear c28
                              try clear c28b0
                              try clear c28b1
                              try clear c28b2
                              try clear c29
                              try clear c29b0
                              try clear c29b1
                              try clear c29b2
                              try clear c30
                              try clear c30b0
                              try clear c30b1
                              try clear c30b2
                              try clear c31
                              try clear c31b0
                              try clear c31b1
                              try clear c31b2
                              try clear p2
                              obtain ⟨x19_2, rfl, HA, HK2, HO_15, HO_18, HB⟩ := hrel
                              cases gk with
                              | zero => exact absurd HA.out (by simp [canopylaw1_WordReads.l0])
                              | succ k2 =>
                                have H := HA.out
                                clear HA
                                simp only [canopylaw1_WordReads.l0] at H
                                by_cases c41 : x19_2 < (y283.length : Int)
                                · rw [if_pos c41] at H
                                  have c41b0 : decide (x19_2 < (y283.length : Int)) = true := decide_eq_true c41
                                  clear c41
                                  by_cases c42 : 0 ≤ x19_2
                                  · rw [if_pos c42] at H
                                    have c42b0 : decide (0 ≤ x19_2) = true := decide_eq_true c42
                                    clear c42
                                    replace H := Option.bind_eq_some_iff.mp H
                                    obtain ⟨⟨t287, t290, t291⟩, A430, H⟩ := H
                                    replace H : ((canopyref1_Parse.f k2 t274 (rdOf ByteArray.empty y283 x19_2)).bind fun bt293 => (if t291 = bt293.2.2 then (if t290 = bt293.2.1 then ((canopyref1_Ints.f k2 t287 bt293.1).bind fun t298 => (if t298 = true then (canopylaw1_WordReads.l0 k2 t274 y283 (wrap64 (x19_2 + 1))) else (some false))) else (some false)) else (some false))) = some r := H
                                    have A43 := Aside0.mk A430
                                    clear A430
                                    replace H := Option.bind_eq_some_iff.mp H
                                    obtain ⟨⟨t293, t294, t295⟩, A440, H⟩ := H
                                    replace H : (if t291 = t295 then (if t290 = t294 then ((canopyref1_Ints.f k2 t287 t293).bind fun t298 => (if t298 = true then (canopylaw1_WordReads.l0 k2 t274 y283 (wrap64 (x19_2 + 1))) else (some false))) else (some false)) else (some false)) = some r := H
                                    have A44 := Aside0.mk A440
                                    clear A440
                                    by_cases c45 : t291 = t295
                                    · rw [if_pos c45] at H
                                      have c45b0 : (t291 == t295) = true := beq_iff_eq.mpr c45
                                      have c45b1 : (t291 != t295) = false := bne_eq_false_iff_eq.mpr c45
                                      clear c45
                                      by_cases c46 : t290 = t294
                                      · rw [if_pos c46] at H
                                        have c46b0 : (t290 == t294) = true := beq_iff_eq.mpr c46
                                        have c46b1 : (t290 != t294) = false := bne_eq_false_iff_eq.mpr c46
                                        clear c46
                                        replace H := Option.bind_eq_some_iff.mp H
                                        obtain ⟨t298, A470, H⟩ := H
                                        replace H : (if t298 = true then (canopylaw1_WordReads.l0 k2 t274 y283 (wrap64 (x19_2 + 1))) else (some false)) = some r := H
                                        have A47 := Aside0.mk A470
                                        clear A470
                                        by_cases c48 : t298 = true
                                        · subst c48
                                          have H1 : (canopylaw1_WordReads.l0 k2 t274 y283 (wrap64 (x19_2 + 1))) = some r := by rw [if_pos rfl] at H; exact H
                                          clear H
                                          have H := H1
                                          clear H1
                                          have H' := Aside0.mk H
                                          clear H
                                          obtain ⟨Ao49, co49, eo49⟩ := Kd.R_slice HO_18.out
                                          subst eo49
                                          have p286 : 0 ≤ (x19_2 : Int) := of_decide_eq_true (by first | (with_reducible assumption) | assumption)
                                          have q286 : x19_2 < (y283.length : Int) := of_decide_eq_true (by first | (with_reducible assumption) | assumption)
                                          obtain ⟨ad286, e286, hx286_0⟩ := Kd.at_string (Kd.R_reads' HO_18.out).2.2 x19_2 p286 q286
                                          cases e286
                                          replace p286 := eq_true p286
                                          replace q286 := eq_true q286
                                          go_wp2_with (first | ((with_reducible refine gate_callee (f := 17) rfl ?_); refine goesL_ (some 88) rfl rfl Try.func17 (by kernel_rfl) rfl #[.slice Ao33 t274.length co33, .string (rdOf ByteArray.empty y283 x19_2)] rfl (by (try simp only [List.map_toArray, List.map_cons, List.map_nil]); first | done | rfl | (simp only [List.length_drop, List.length_take]; rfl)) ?_; (with_reducible refine (word_Parse.calls k2 _ _ t274 (rdOf ByteArray.empty y283 x19_2) t287 t290 t291 _ ?side1 ?side2 A43.out).mono ?_); (case side1 => repeat (first | exact (Kd.R_reads' HO_15.out).2.2 | (with_reducible refine Kd.C_alloc ?_ _) | (with_reducible refine Kd.C_drewN ?_ _) | (with_reducible refine Kd.C_drew ?_))); (case side2 => exact (Kd.R_reads' HO_15.out).2.1); rintro e w50 ⟨v288, rfl, ho0, hb⟩; refine ⟨_, rfl, ?_⟩; have n0_ := Aside0.mk (Kd.R_below (by (with_reducible repeat (first | apply Kd.R_alloc | apply Kd.R_drewN | apply Kd.R_drew)); exact HO_15.out) hb); have n1_ := Aside0.mk (Kd.R_below (by (with_reducible repeat (first | apply Kd.R_alloc | apply Kd.R_drewN | apply Kd.R_drew)); exact HO_18.out) hb); have n2_ := Aside0.mk (Kd.V_lower (Kd.V_mono (ok' := fun k_ => some k_ ≠ (.slice Ao33 t274.length co33 : Value).ownBlock ∧ some k_ ≠ (.slice (some ad286) y283.length co49 : Value).ownBlock) ho0 (fun k_ hk_ => ⟨(Kd.fresh' (Kd.R_lt (by (with_reducible repeat (first | apply Kd.R_alloc | apply Kd.R_drewN | apply Kd.R_drew)); exact HO_15.out)) k_ hk_), (Kd.fresh' (Kd.R_lt (by (with_reducible repeat (first | apply Kd.R_alloc | apply Kd.R_drewN | apply Kd.R_drew)); exact HO_18.out)) k_ hk_)⟩)) (below_size (by repeat (first | (with_reducible first | exact HB.out | apply below_alloc | apply pw_below_drewN | apply below_drew1) | exact HB.out)))); have n3_ := Aside0.mk (below_step (by repeat (first | (with_reducible first | exact HB.out | apply below_alloc | apply pw_below_drewN | apply below_drew1) | exact HB.out)) hb); clear HO_15; clear HO_18; clear HB; have HO_15 := n0_; have HO_18 := n1_; have HO289 := n2_; have HB := n3_; clear n0_ n1_ n2_ n3_; (try clear hb); (try clear hb2); (try clear hk); (try clear hi); (try clear ho0); have p292 : 0 ≤ (x19_2 : Int) := of_decide_eq_true (by first | (with_reducible assumption) | assumption); have q292 : x19_2 < (y283.length : Int) := of_decide_eq_true (by first | (with_reducible assumption) | assumption); obtain ⟨ad292, e292, hx292_0⟩ := Kd.at_string (Kd.R_reads' HO_18.out).2.2 x19_2 p292 q292; obtain rfl : ad286 = ad292 := (by injection e292); replace p292 := eq_true p292; replace q292 := eq_true q292) | ((with_reducible refine gate_callee (f := 22) rfl ?_); refine goesL_ (some 98) rfl rfl Try.func22 (by kernel_rfl) rfl #[.slice Ao33 t274.length co33, .string (rdOf ByteArray.empty y283 x19_2)] rfl (by (try simp only [List.map_toArray, List.map_cons, List.map_nil]); first | done | rfl | (simp only [List.length_drop, List.length_take]; rfl)) ?_; (with_reducible refine (canopyref1_Parse.calls k2 _ _ t274 (rdOf ByteArray.empty y283 x19_2) t293 t294 t295 _ ?side1 ?side2 A44.out).mono ?_); (case side1 => repeat (first | exact (Kd.R_reads' HO_15.out).2.2 | (with_reducible refine Kd.C_alloc ?_ _) | (with_reducible refine Kd.C_drewN ?_ _) | (with_reducible refine Kd.C_drew ?_))); (case side2 => exact (Kd.R_reads' HO_15.out).2.1); rintro e w51 ⟨v296, rfl, ho0, hb⟩; refine ⟨_, rfl, ?_⟩; have n0_ := Aside0.mk (Kd.R_below (by (with_reducible repeat (first | apply Kd.R_alloc | apply Kd.R_drewN | apply Kd.R_drew)); exact HO_15.out) hb); have n1_ := Aside0.mk (Kd.R_below (by (with_reducible repeat (first | apply Kd.R_alloc | apply Kd.R_drewN | apply Kd.R_drew)); exact HO_18.out) hb); have n2_ := Aside0.mk (Kd.V_elder' (by (with_reducible repeat (first | apply Kd.V_alloc | apply Kd.V_drewN | apply Kd.V_drew)); exact HO289.out) (Kd.R_base ho0) hb); have n3_ := Aside0.mk (Kd.R_lower ho0 (below_size (by repeat (first | (with_reducible first | exact HB.out | apply below_alloc | apply pw_below_drewN | apply below_drew1) | exact HB.out)))); have n4_ := Aside0.mk (below_step (by repeat (first | (with_reducible first | exact HB.out | apply below_alloc | apply pw_below_drewN | apply below_drew1) | exact HB.out)) hb); clear HO_15; clear HO_18; clear HO289; clear HB; have HO_15 := n0_; have HO_18 := n1_; have HO289 := n2_; have HO297 := n3_; have HB := n4_; clear n0_ n1_ n2_ n3_ n4_; (try clear hb); (try clear hb2); (try clear hk); (try clear hi); (try clear ho0); obtain ⟨Ao52, co52, eo52⟩ := Kd.V_slice HO289.out; subst eo52; obtain ⟨Ao53, co53, eo53⟩ := Kd.R_slice HO297.out; subst eo53) | (go_at_call 20; (with_reducible refine (canopyref1_Ints.calls k2 _ _ t287 _ _ t293 true _ ?side1 ?side2 ?side3 ?side4 A47.out).mono ?_); (case side1 => repeat (first | exact (Kd.V_reads' HO289.out).2.2 | (with_reducible refine Kd.C_alloc ?_ _) | (with_reducible refine Kd.C_drewN ?_ _) | (with_reducible refine Kd.C_drew ?_))); (case side2 => exact (Kd.V_reads' HO289.out).2.1); (case side3 => repeat (first | exact (Kd.R_reads' HO297.out).2.2 | (with_reducible refine Kd.C_alloc ?_ _) | (with_reducible refine Kd.C_drewN ?_ _) | (with_reducible refine Kd.C_drew ?_))); (case side4 => exact (Kd.R_reads' HO297.out).2.1); rintro e w' ⟨rfl, ⟨nd, rfl⟩⟩) | (go_at_call 17; (with_reducible refine (word_Parse.calls k2 _ _ t274 (rdOf ByteArray.empty y283 x19_2) t287 t290 t291 _ ?side1 ?side2 A43.out).mono ?_); (case side1 => repeat (first | exact (Kd.R_reads' HO_15.out).2.2 | (with_reducible refine Kd.C_alloc ?_ _) | (with_reducible refine Kd.C_drewN ?_ _) | (with_reducible refine Kd.C_drew ?_))); (case side2 => exact (Kd.R_reads' HO_15.out).2.1); rintro e w50 ⟨v288, rfl, ho0, hb⟩; have n0_ := Aside0.mk (Kd.R_below (by (with_reducible repeat (first | apply Kd.R_alloc | apply Kd.R_drewN | apply Kd.R_drew)); exact HO_15.out) hb); have n1_ := Aside0.mk (Kd.R_below (by (with_reducible repeat (first | apply Kd.R_alloc | apply Kd.R_drewN | apply Kd.R_drew)); exact HO_18.out) hb); have n2_ := Aside0.mk (Kd.V_lower (Kd.V_mono (ok' := fun k_ => some k_ ≠ (.slice Ao33 t274.length co33 : Value).ownBlock ∧ some k_ ≠ (.slice (some ad286) y283.length co49 : Value).ownBlock) ho0 (fun k_ hk_ => ⟨(Kd.fresh' (Kd.R_lt (by (with_reducible repeat (first | apply Kd.R_alloc | apply Kd.R_drewN | apply Kd.R_drew)); exact HO_15.out)) k_ hk_), (Kd.fresh' (Kd.R_lt (by (with_reducible repeat (first | apply Kd.R_alloc | apply Kd.R_drewN | apply Kd.R_drew)); exact HO_18.out)) k_ hk_)⟩)) (below_size (by repeat (first | (with_reducible first | exact HB.out | apply below_alloc | apply pw_below_drewN | apply below_drew1) | exact HB.out)))); have n3_ := Aside0.mk (below_step (by repeat (first | (with_reducible first | exact HB.out | apply below_alloc | apply pw_below_drewN | apply below_drew1) | exact HB.out)) hb); clear HO_15; clear HO_18; clear HB; have HO_15 := n0_; have HO_18 := n1_; have HO289 := n2_; have HB := n3_; clear n0_ n1_ n2_ n3_; (try clear hb); (try clear hb2); (try clear hk); (try clear hi); (try clear ho0); have p292 : 0 ≤ (x19_2 : Int) := of_decide_eq_true (by first | (with_reducible assumption) | assumption); have q292 : x19_2 < (y283.length : Int) := of_decide_eq_true (by first | (with_reducible assumption) | assumption); obtain ⟨ad292, e292, hx292_0⟩ := Kd.at_string (Kd.R_reads' HO_18.out).2.2 x19_2 p292 q292; obtain rfl : ad286 = ad292 := (by injection e292); replace p292 := eq_true p292; replace q292 := eq_true q292) | (go_at_call 22; (with_reducible refine (canopyref1_Parse.calls k2 _ _ t274 (rdOf ByteArray.empty y283 x19_2) t293 t294 t295 _ ?side1 ?side2 A44.out).mono ?_); (case side1 => repeat (first | exact (Kd.R_reads' HO_15.out).2.2 | (with_reducible refine Kd.C_alloc ?_ _) | (with_reducible refine Kd.C_drewN ?_ _) | (with_reducible refine Kd.C_drew ?_))); (case side2 => exact (Kd.R_reads' HO_15.out).2.1); rintro e w51 ⟨v296, rfl, ho0, hb⟩; have n0_ := Aside0.mk (Kd.R_below (by (with_reducible repeat (first | apply Kd.R_alloc | apply Kd.R_drewN | apply Kd.R_drew)); exact HO_15.out) hb); have n1_ := Aside0.mk (Kd.R_below (by (with_reducible repeat (first | apply Kd.R_alloc | apply Kd.R_drewN | apply Kd.R_drew)); exact HO_18.out) hb); have n2_ := Aside0.mk (Kd.V_elder' (by (with_reducible repeat (first | apply Kd.V_alloc | apply Kd.V_drewN | apply Kd.V_drew)); exact HO289.out) (Kd.R_base ho0) hb); have n3_ := Aside0.mk (Kd.R_lower ho0 (below_size (by repeat (first | (with_reducible first | exact HB.out | apply below_alloc | apply pw_below_drewN | apply below_drew1) | exact HB.out)))); have n4_ := Aside0.mk (below_step (by repeat (first | (with_reducible first | exact HB.out | apply below_alloc | apply pw_below_drewN | apply below_drew1) | exact HB.out)) hb); clear HO_15; clear HO_18; clear HO289; clear HB; have HO_15 := n0_; have HO_18 := n1_; have HO289 := n2_; have HO297 := n3_; have HB := n4_; clear n0_ n1_ n2_ n3_ n4_; (try clear hb); (try clear hb2); (try clear hk); (try clear hi); (try clear ho0); obtain ⟨Ao52, co52, eo52⟩ := Kd.V_slice HO289.out; subst eo52; obtain ⟨Ao53, co53, eo53⟩ := Kd.R_slice HO297.out; subst eo53))
                                          go_roundg k2
                                          case measure => have := HJ9.out; have := HK2.out; omega
                                          case rel => exact ⟨(wrap64 (x19_2 + 1)), (by first | rfl | (simp; done) | (simp [*]; done)), H', ⟨by have := HJ9.out; have := HK2.out; omega⟩, ⟨by (with_reducible repeat (first | apply Kd.R_alloc | apply Kd.R_drewN | apply Kd.R_drew)); exact HO_15.out⟩, ⟨by (with_reducible repeat (first | apply Kd.R_alloc | apply Kd.R_drewN | apply Kd.R_drew)); exact HO_18.out⟩, ⟨by repeat (first | (with_reducible first | exact HB.out | apply below_alloc | apply pw_below_drewN | apply below_drew1) | exact HB.out)⟩⟩
                                        · replace c48 := Bool.eq_false_iff.mpr c48
                                          subst c48
                                          have H1 : (some false) = some r := by rw [if_neg (show ¬ (false = true) by decide)] at H; exact H
                                          clear H
                                          have H := H1
                                          clear H1
                                          obtain rfl := Option.some.inj H
                                          obtain ⟨Ao54, co54, eo54⟩ := Kd.R_slice HO_18.out
                                          subst eo54
                                          have p286 : 0 ≤ (x19_2 : Int) := of_decide_eq_true (by first | (with_reducible assumption) | assumption)
                                          have q286 : x19_2 < (y283.length : Int) := of_decide_eq_true (by first | (with_reducible assumption) | assumption)
                                          obtain ⟨ad286, e286, hx286_0⟩ := Kd.at_string (Kd.R_reads' HO_18.out).2.2 x19_2 p286 q286
                                          cases e286
                                          replace p286 := eq_true p286
                                          replace q286 := eq_true q286
                                          go_wp2_with (first | ((with_reducible refine gate_callee (f := 17) rfl ?_); refine goesL_ (some 88) rfl rfl Try.func17 (by kernel_rfl) rfl #[.slice Ao33 t274.length co33, .string (rdOf ByteArray.empty y283 x19_2)] rfl (by (try simp only [List.map_toArray, List.map_cons, List.map_nil]); first | done | rfl | (simp only [List.length_drop, List.length_take]; rfl)) ?_; (with_reducible refine (word_Parse.calls k2 _ _ t274 (rdOf ByteArray.empty y283 x19_2) t287 t290 t291 _ ?side1 ?side2 A43.out).mono ?_); (case side1 => repeat (first | exact (Kd.R_reads' HO_15.out).2.2 | (with_reducible refine Kd.C_alloc ?_ _) | (with_reducible refine Kd.C_drewN ?_ _) | (with_reducible refine Kd.C_drew ?_))); (case side2 => exact (Kd.R_reads' HO_15.out).2.1); rintro e w55 ⟨v288, rfl, ho0, hb⟩; refine ⟨_, rfl, ?_⟩; have n0_ := Aside0.mk (Kd.R_below (by (with_reducible repeat (first | apply Kd.R_alloc | apply Kd.R_drewN | apply Kd.R_drew)); exact HO_15.out) hb); have n1_ := Aside0.mk (Kd.R_below (by (with_reducible repeat (first | apply Kd.R_alloc | apply Kd.R_drewN | apply Kd.R_drew)); exact HO_18.out) hb); have n2_ := Aside0.mk (Kd.V_lower (Kd.V_mono (ok' := fun k_ => some k_ ≠ (.slice Ao33 t274.length co33 : Value).ownBlock ∧ some k_ ≠ (.slice (some ad286) y283.length co54 : Value).ownBlock) ho0 (fun k_ hk_ => ⟨(Kd.fresh' (Kd.R_lt (by (with_reducible repeat (first | apply Kd.R_alloc | apply Kd.R_drewN | apply Kd.R_drew)); exact HO_15.out)) k_ hk_), (Kd.fresh' (Kd.R_lt (by (with_reducible repeat (first | apply Kd.R_alloc | apply Kd.R_drewN | apply Kd.R_drew)); exact HO_18.out)) k_ hk_)⟩)) (below_size (by repeat (first | (with_reducible first | exact HB.out | apply below_alloc | apply pw_below_drewN | apply below_drew1) | exact HB.out)))); have n3_ := Aside0.mk (below_step (by repeat (first | (with_reducible first | exact HB.out | apply below_alloc | apply pw_below_drewN | apply below_drew1) | exact HB.out)) hb); clear HO_15; clear HO_18; clear HB; have HO_15 := n0_; have HO_18 := n1_; have HO289 := n2_; have HB := n3_; clear n0_ n1_ n2_ n3_; (try clear hb); (try clear hb2); (try clear hk); (try clear hi); (try clear ho0); have p292 : 0 ≤ (x19_2 : Int) := of_decide_eq_true (by first | (with_reducible assumption) | assumption); have q292 : x19_2 < (y283.length : Int) := of_decide_eq_true (by first | (with_reducible assumption) | assumption); obtain ⟨ad292, e292, hx292_0⟩ := Kd.at_string (Kd.R_reads' HO_18.out).2.2 x19_2 p292 q292; obtain rfl : ad286 = ad292 := (by injection e292); replace p292 := eq_true p292; replace q292 := eq_true q292) | ((with_reducible refine gate_callee (f := 22) rfl ?_); refine goesL_ (some 98) rfl rfl Try.func22 (by kernel_rfl) rfl #[.slice Ao33 t274.length co33, .string (rdOf ByteArray.empty y283 x19_2)] rfl (by (try simp only [List.map_toArray, List.map_cons, List.map_nil]); first | done | rfl | (simp only [List.length_drop, List.length_take]; rfl)) ?_; (with_reducible refine (canopyref1_Parse.calls k2 _ _ t274 (rdOf ByteArray.empty y283 x19_2) t293 t294 t295 _ ?side1 ?side2 A44.out).mono ?_); (case side1 => repeat (first | exact (Kd.R_reads' HO_15.out).2.2 | (with_reducible refine Kd.C_alloc ?_ _) | (with_reducible refine Kd.C_drewN ?_ _) | (with_reducible refine Kd.C_drew ?_))); (case side2 => exact (Kd.R_reads' HO_15.out).2.1); rintro e w56 ⟨v296, rfl, ho0, hb⟩; refine ⟨_, rfl, ?_⟩; have n0_ := Aside0.mk (Kd.R_below (by (with_reducible repeat (first | apply Kd.R_alloc | apply Kd.R_drewN | apply Kd.R_drew)); exact HO_15.out) hb); have n1_ := Aside0.mk (Kd.R_below (by (with_reducible repeat (first | apply Kd.R_alloc | apply Kd.R_drewN | apply Kd.R_drew)); exact HO_18.out) hb); have n2_ := Aside0.mk (Kd.V_elder' (by (with_reducible repeat (first | apply Kd.V_alloc | apply Kd.V_drewN | apply Kd.V_drew)); exact HO289.out) (Kd.R_base ho0) hb); have n3_ := Aside0.mk (Kd.R_lower ho0 (below_size (by repeat (first | (with_reducible first | exact HB.out | apply below_alloc | apply pw_below_drewN | apply below_drew1) | exact HB.out)))); have n4_ := Aside0.mk (below_step (by repeat (first | (with_reducible first | exact HB.out | apply below_alloc | apply pw_below_drewN | apply below_drew1) | exact HB.out)) hb); clear HO_15; clear HO_18; clear HO289; clear HB; have HO_15 := n0_; have HO_18 := n1_; have HO289 := n2_; have HO297 := n3_; have HB := n4_; clear n0_ n1_ n2_ n3_ n4_; (try clear hb); (try clear hb2); (try clear hk); (try clear hi); (try clear ho0); obtain ⟨Ao57, co57, eo57⟩ := Kd.V_slice HO289.out; subst eo57; obtain ⟨Ao58, co58, eo58⟩ := Kd.R_slice HO297.out; subst eo58) | (go_at_call 20; (with_reducible refine (canopyref1_Ints.calls k2 _ _ t287 _ _ t293 false _ ?side1 ?side2 ?side3 ?side4 A47.out).mono ?_); (case side1 => repeat (first | exact (Kd.V_reads' HO289.out).2.2 | (with_reducible refine Kd.C_alloc ?_ _) | (with_reducible refine Kd.C_drewN ?_ _) | (with_reducible refine Kd.C_drew ?_))); (case side2 => exact (Kd.V_reads' HO289.out).2.1); (case side3 => repeat (first | exact (Kd.R_reads' HO297.out).2.2 | (with_reducible refine Kd.C_alloc ?_ _) | (with_reducible refine Kd.C_drewN ?_ _) | (with_reducible refine Kd.C_drew ?_))); (case side4 => exact (Kd.R_reads' HO297.out).2.1); rintro e w' ⟨rfl, ⟨nd, rfl⟩⟩) | (go_at_call 17; (with_reducible refine (word_Parse.calls k2 _ _ t274 (rdOf ByteArray.empty y283 x19_2) t287 t290 t291 _ ?side1 ?side2 A43.out).mono ?_); (case side1 => repeat (first | exact (Kd.R_reads' HO_15.out).2.2 | (with_reducible refine Kd.C_alloc ?_ _) | (with_reducible refine Kd.C_drewN ?_ _) | (with_reducible refine Kd.C_drew ?_))); (case side2 => exact (Kd.R_reads' HO_15.out).2.1); rintro e w55 ⟨v288, rfl, ho0, hb⟩; have n0_ := Aside0.mk (Kd.R_below (by (with_reducible repeat (first | apply Kd.R_alloc | apply Kd.R_drewN | apply Kd.R_drew)); exact HO_15.out) hb); have n1_ := Aside0.mk (Kd.R_below (by (with_reducible repeat (first | apply Kd.R_alloc | apply Kd.R_drewN | apply Kd.R_drew)); exact HO_18.out) hb); have n2_ := Aside0.mk (Kd.V_lower (Kd.V_mono (ok' := fun k_ => some k_ ≠ (.slice Ao33 t274.length co33 : Value).ownBlock ∧ some k_ ≠ (.slice (some ad286) y283.length co54 : Value).ownBlock) ho0 (fun k_ hk_ => ⟨(Kd.fresh' (Kd.R_lt (by (with_reducible repeat (first | apply Kd.R_alloc | apply Kd.R_drewN | apply Kd.R_drew)); exact HO_15.out)) k_ hk_), (Kd.fresh' (Kd.R_lt (by (with_reducible repeat (first | apply Kd.R_alloc | apply Kd.R_drewN | apply Kd.R_drew)); exact HO_18.out)) k_ hk_)⟩)) (below_size (by repeat (first | (with_reducible first | exact HB.out | apply below_alloc | apply pw_below_drewN | apply below_drew1) | exact HB.out)))); have n3_ := Aside0.mk (below_step (by repeat (first | (with_reducible first | exact HB.out | apply below_alloc | apply pw_below_drewN | apply below_drew1) | exact HB.out)) hb); clear HO_15; clear HO_18; clear HB; have HO_15 := n0_; have HO_18 := n1_; have HO289 := n2_; have HB := n3_; clear n0_ n1_ n2_ n3_; (try clear hb); (try clear hb2); (try clear hk); (try clear hi); (try clear ho0); have p292 : 0 ≤ (x19_2 : Int) := of_decide_eq_true (by first | (with_reducible assumption) | assumption); have q292 : x19_2 < (y283.length : Int) := of_decide_eq_true (by first | (with_reducible assumption) | assumption); obtain ⟨ad292, e292, hx292_0⟩ := Kd.at_string (Kd.R_reads' HO_18.out).2.2 x19_2 p292 q292; obtain rfl : ad286 = ad292 := (by injection e292); replace p292 := eq_true p292; replace q292 := eq_true q292) | (go_at_call 22; (with_reducible refine (canopyref1_Parse.calls k2 _ _ t274 (rdOf ByteArray.empty y283 x19_2) t293 t294 t295 _ ?side1 ?side2 A44.out).mono ?_); (case side1 => repeat (first | exact (Kd.R_reads' HO_15.out).2.2 | (with_reducible refine Kd.C_alloc ?_ _) | (with_reducible refine Kd.C_drewN ?_ _) | (with_reducible refine Kd.C_drew ?_))); (case side2 => exact (Kd.R_reads' HO_15.out).2.1); rintro e w56 ⟨v296, rfl, ho0, hb⟩; have n0_ := Aside0.mk (Kd.R_below (by (with_reducible repeat (first | apply Kd.R_alloc | apply Kd.R_drewN | apply Kd.R_drew)); exact HO_15.out) hb); have n1_ := Aside0.mk (Kd.R_below (by (with_reducible repeat (first | apply Kd.R_alloc | apply Kd.R_drewN | apply Kd.R_drew)); exact HO_18.out) hb); have n2_ := Aside0.mk (Kd.V_elder' (by (with_reducible repeat (first | apply Kd.V_alloc | apply Kd.V_drewN | apply Kd.V_drew)); exact HO289.out) (Kd.R_base ho0) hb); have n3_ := Aside0.mk (Kd.R_lower ho0 (below_size (by repeat (first | (with_reducible first | exact HB.out | apply below_alloc | apply pw_below_drewN | apply below_drew1) | exact HB.out)))); have n4_ := Aside0.mk (below_step (by repeat (first | (with_reducible first | exact HB.out | apply below_alloc | apply pw_below_drewN | apply below_drew1) | exact HB.out)) hb); clear HO_15; clear HO_18; clear HO289; clear HB; have HO_15 := n0_; have HO_18 := n1_; have HO289 := n2_; have HO297 := n3_; have HB := n4_; clear n0_ n1_ n2_ n3_ n4_; (try clear hb); (try clear hb2); (try clear hk); (try clear hi); (try clear ho0); obtain ⟨Ao57, co57, eo57⟩ := Kd.V_slice HO289.out; subst eo57; obtain ⟨Ao58, co58, eo58⟩ := Kd.R_slice HO297.out; subst eo58))
                                          go_ret
                                          exact ⟨by first | rfl | (simp [errW_none, errW_some] <;> rfl) | (simp [*, errW_none, errW_some] <;> rfl), by repeat (first | (with_reducible first | exact HB.out | apply below_alloc | apply pw_below_drewN | apply below_drew1) | exact HB.out)⟩
                                      · rw [if_neg c46] at H
                                        have c46b0 : (t290 == t294) = false := beq_eq_false_iff_ne.mpr c46
                                        have c46b1 : (t290 != t294) = true := bne_iff_ne.mpr c46
                                        obtain rfl := Option.some.inj H
                                        obtain ⟨Ao59, co59, eo59⟩ := Kd.R_slice HO_18.out
                                        subst eo59
                                        have p286 : 0 ≤ (x19_2 : Int) := of_decide_eq_true (by first | (with_reducible assumption) | assumption)
                                        have q286 : x19_2 < (y283.length : Int) := of_decide_eq_true (by first | (with_reducible assumption) | assumption)
                                        obtain ⟨ad286, e286, hx286_0⟩ := Kd.at_string (Kd.R_reads' HO_18.out).2.2 x19_2 p286 q286
                                        cases e286
                                        replace p286 := eq_true p286
                                        replace q286 := eq_true q286
                                        go_wp2_with (first | ((with_reducible refine gate_callee (f := 17) rfl ?_); refine goesL_ (some 88) rfl rfl Try.func17 (by kernel_rfl) rfl #[.slice Ao33 t274.length co33, .string (rdOf ByteArray.empty y283 x19_2)] rfl (by (try simp only [List.map_toArray, List.map_cons, List.map_nil]); first | done | rfl | (simp only [List.length_drop, List.length_take]; rfl)) ?_; (with_reducible refine (word_Parse.calls k2 _ _ t274 (rdOf ByteArray.empty y283 x19_2) t287 t290 t291 _ ?side1 ?side2 A43.out).mono ?_); (case side1 => repeat (first | exact (Kd.R_reads' HO_15.out).2.2 | (with_reducible refine Kd.C_alloc ?_ _) | (with_reducible refine Kd.C_drewN ?_ _) | (with_reducible refine Kd.C_drew ?_))); (case side2 => exact (Kd.R_reads' HO_15.out).2.1); rintro e w60 ⟨v288, rfl, ho0, hb⟩; refine ⟨_, rfl, ?_⟩; have n0_ := Aside0.mk (Kd.R_below (by (with_reducible repeat (first | apply Kd.R_alloc | apply Kd.R_drewN | apply Kd.R_drew)); exact HO_15.out) hb); have n1_ := Aside0.mk (Kd.R_below (by (with_reducible repeat (first | apply Kd.R_alloc | apply Kd.R_drewN | apply Kd.R_drew)); exact HO_18.out) hb); have n2_ := Aside0.mk (Kd.V_lower (Kd.V_mono (ok' := fun k_ => some k_ ≠ (.slice Ao33 t274.length co33 : Value).ownBlock ∧ some k_ ≠ (.slice (some ad286) y283.length co59 : Value).ownBlock) ho0 (fun k_ hk_ => ⟨(Kd.fresh' (Kd.R_lt (by (with_reducible repeat (first | apply Kd.R_alloc | apply Kd.R_drewN | apply Kd.R_drew)); exact HO_15.out)) k_ hk_), (Kd.fresh' (Kd.R_lt (by (with_reducible repeat (first | apply Kd.R_alloc | apply Kd.R_drewN | apply Kd.R_drew)); exact HO_18.out)) k_ hk_)⟩)) (below_size (by repeat (first | (with_reducible first | exact HB.out | apply below_alloc | apply pw_below_drewN | apply below_drew1) | exact HB.out)))); have n3_ := Aside0.mk (below_step (by repeat (first | (with_reducible first | exact HB.out | apply below_alloc | apply pw_below_drewN | apply below_drew1) | exact HB.out)) hb); clear HO_15; clear HO_18; clear HB; have HO_15 := n0_; have HO_18 := n1_; have HO289 := n2_; have HB := n3_; clear n0_ n1_ n2_ n3_; (try clear hb); (try clear hb2); (try clear hk); (try clear hi); (try clear ho0); have p292 : 0 ≤ (x19_2 : Int) := of_decide_eq_true (by first | (with_reducible assumption) | assumption); have q292 : x19_2 < (y283.length : Int) := of_decide_eq_true (by first | (with_reducible assumption) | assumption); obtain ⟨ad292, e292, hx292_0⟩ := Kd.at_string (Kd.R_reads' HO_18.out).2.2 x19_2 p292 q292; obtain rfl : ad286 = ad292 := (by injection e292); replace p292 := eq_true p292; replace q292 := eq_true q292) | ((with_reducible refine gate_callee (f := 22) rfl ?_); refine goesL_ (some 98) rfl rfl Try.func22 (by kernel_rfl) rfl #[.slice Ao33 t274.length co33, .string (rdOf ByteArray.empty y283 x19_2)] rfl (by (try simp only [List.map_toArray, List.map_cons, List.map_nil]); first | done | rfl | (simp only [List.length_drop, List.length_take]; rfl)) ?_; (with_reducible refine (canopyref1_Parse.calls k2 _ _ t274 (rdOf ByteArray.empty y283 x19_2) t293 t294 t295 _ ?side1 ?side2 A44.out).mono ?_); (case side1 => repeat (first | exact (Kd.R_reads' HO_15.out).2.2 | (with_reducible refine Kd.C_alloc ?_ _) | (with_reducible refine Kd.C_drewN ?_ _) | (with_reducible refine Kd.C_drew ?_))); (case side2 => exact (Kd.R_reads' HO_15.out).2.1); rintro e w61 ⟨v296, rfl, ho0, hb⟩; refine ⟨_, rfl, ?_⟩; have n0_ := Aside0.mk (Kd.R_below (by (with_reducible repeat (first | apply Kd.R_alloc | apply Kd.R_drewN | apply Kd.R_drew)); exact HO_15.out) hb); have n1_ := Aside0.mk (Kd.R_below (by (with_reducible repeat (first | apply Kd.R_alloc | apply Kd.R_drewN | apply Kd.R_drew)); exact HO_18.out) hb); have n2_ := Aside0.mk (Kd.V_elder' (by (with_reducible repeat (first | apply Kd.V_alloc | apply Kd.V_drewN | apply Kd.V_drew)); exact HO289.out) (Kd.R_base ho0) hb); have n3_ := Aside0.mk (Kd.R_lower ho0 (below_size (by repeat (first | (with_reducible first | exact HB.out | apply below_alloc | apply pw_below_drewN | apply below_drew1) | exact HB.out)))); have n4_ := Aside0.mk (below_step (by repeat (first | (with_reducible first | exact HB.out | apply below_alloc | apply pw_below_drewN | apply below_drew1) | exact HB.out)) hb); clear HO_15; clear HO_18; clear HO289; clear HB; have HO_15 := n0_; have HO_18 := n1_; have HO289 := n2_; have HO297 := n3_; have HB := n4_; clear n0_ n1_ n2_ n3_ n4_; (try clear hb); (try clear hb2); (try clear hk); (try clear hi); (try clear ho0)) | (go_at_call 17; (with_reducible refine (word_Parse.calls k2 _ _ t274 (rdOf ByteArray.empty y283 x19_2) t287 t290 t291 _ ?side1 ?side2 A43.out).mono ?_); (case side1 => repeat (first | exact (Kd.R_reads' HO_15.out).2.2 | (with_reducible refine Kd.C_alloc ?_ _) | (with_reducible refine Kd.C_drewN ?_ _) | (with_reducible refine Kd.C_drew ?_))); (case side2 => exact (Kd.R_reads' HO_15.out).2.1); rintro e w60 ⟨v288, rfl, ho0, hb⟩; have n0_ := Aside0.mk (Kd.R_below (by (with_reducible repeat (first | apply Kd.R_alloc | apply Kd.R_drewN | apply Kd.R_drew)); exact HO_15.out) hb); have n1_ := Aside0.mk (Kd.R_below (by (with_reducible repeat (first | apply Kd.R_alloc | apply Kd.R_drewN | apply Kd.R_drew)); exact HO_18.out) hb); have n2_ := Aside0.mk (Kd.V_lower (Kd.V_mono (ok' := fun k_ => some k_ ≠ (.slice Ao33 t274.length co33 : Value).ownBlock ∧ some k_ ≠ (.slice (some ad286) y283.length co59 : Value).ownBlock) ho0 (fun k_ hk_ => ⟨(Kd.fresh' (Kd.R_lt (by (with_reducible repeat (first | apply Kd.R_alloc | apply Kd.R_drewN | apply Kd.R_drew)); exact HO_15.out)) k_ hk_), (Kd.fresh' (Kd.R_lt (by (with_reducible repeat (first | apply Kd.R_alloc | apply Kd.R_drewN | apply Kd.R_drew)); exact HO_18.out)) k_ hk_)⟩)) (below_size (by repeat (first | (with_reducible first | exact HB.out | apply below_alloc | apply pw_below_drewN | apply below_drew1) | exact HB.out)))); have n3_ := Aside0.mk (below_step (by repeat (first | (with_reducible first | exact HB.out | apply below_alloc | apply pw_below_drewN | apply below_drew1) | exact HB.out)) hb); clear HO_15; clear HO_18; clear HB; have HO_15 := n0_; have HO_18 := n1_; have HO289 := n2_; have HB := n3_; clear n0_ n1_ n2_ n3_; (try clear hb); (try clear hb2); (try clear hk); (try clear hi); (try clear ho0); have p292 : 0 ≤ (x19_2 : Int) := of_decide_eq_true (by first | (with_reducible assumption) | assumption); have q292 : x19_2 < (y283.length : Int) := of_decide_eq_true (by first | (with_reducible assumption) | assumption); obtain ⟨ad292, e292, hx292_0⟩ := Kd.at_string (Kd.R_reads' HO_18.out).2.2 x19_2 p292 q292; obtain rfl : ad286 = ad292 := (by injection e292); replace p292 := eq_true p292; replace q292 := eq_true q292) | (go_at_call 22; (with_reducible refine (canopyref1_Parse.calls k2 _ _ t274 (rdOf ByteArray.empty y283 x19_2) t293 t294 t295 _ ?side1 ?side2 A44.out).mono ?_); (case side1 => repeat (first | exact (Kd.R_reads' HO_15.out).2.2 | (with_reducible refine Kd.C_alloc ?_ _) | (with_reducible refine Kd.C_drewN ?_ _) | (with_reducible refine Kd.C_drew ?_))); (case side2 => exact (Kd.R_reads' HO_15.out).2.1); rintro e w61 ⟨v296, rfl, ho0, hb⟩; have n0_ := Aside0.mk (Kd.R_below (by (with_reducible repeat (first | apply Kd.R_alloc | apply Kd.R_drewN | apply Kd.R_drew)); exact HO_15.out) hb); have n1_ := Aside0.mk (Kd.R_below (by (with_reducible repeat (first | apply Kd.R_alloc | apply Kd.R_drewN | apply Kd.R_drew)); exact HO_18.out) hb); have n2_ := Aside0.mk (Kd.V_elder' (by (with_reducible repeat (first | apply Kd.V_alloc | apply Kd.V_drewN | apply Kd.V_drew)); exact HO289.out) (Kd.R_base ho0) hb); have n3_ := Aside0.mk (Kd.R_lower ho0 (below_size (by repeat (first | (with_reducible first | exact HB.out | apply below_alloc | apply pw_below_drewN | apply below_drew1) | exact HB.out)))); have n4_ := Aside0.mk (below_step (by repeat (first | (with_reducible first | exact HB.out | apply below_alloc | apply pw_below_drewN | apply below_drew1) | exact HB.out)) hb); clear HO_15; clear HO_18; clear HO289; clear HB; have HO_15 := n0_; have HO_18 := n1_; have HO289 := n2_; have HO297 := n3_; have HB := n4_; clear n0_ n1_ n2_ n3_ n4_; (try clear hb); (try clear hb2); (try clear hk); (try clear hi); (try clear ho0)))
                                        go_ret
                                        exact ⟨by first | rfl | (simp [errW_none, errW_some] <;> rfl) | (simp [*, errW_none, errW_some] <;> rfl), by repeat (first | (with_reducible first | exact HB.out | apply below_alloc | apply pw_below_drewN | apply below_drew1) | exact HB.out)⟩
                                    · rw [if_neg c45] at H
                                      have c45b0 : (t291 == t295) = false := beq_eq_false_iff_ne.mpr c45
                                      have c45b1 : (t291 != t295) = true := bne_iff_ne.mpr c45
                                      obtain rfl := Option.some.inj H
                                      obtain ⟨Ao62, co62, eo62⟩ := Kd.R_slice HO_18.out
                                      subst eo62
                                      have p286 : 0 ≤ (x19_2 : Int) := of_decide_eq_true (by first | (with_reducible assumption) | assumption)
                                      have q286 : x19_2 < (y283.length : Int) := of_decide_eq_true (by first | (with_reducible assumption) | assumption)
                                      obtain ⟨ad286, e286, hx286_0⟩ := Kd.at_string (Kd.R_reads' HO_18.out).2.2 x19_2 p286 q286
                                      cases e286
                                      replace p286 := eq_true p286
                                      replace q286 := eq_true q286
                                      go_wp2_with (first | ((with_reducible refine gate_callee (f := 17) rfl ?_); refine goesL_ (some 88) rfl rfl Try.func17 (by kernel_rfl) rfl #[.slice Ao33 t274.length co33, .string (rdOf ByteArray.empty y283 x19_2)] rfl (by (try simp only [List.map_toArray, List.map_cons, List.map_nil]); first | done | rfl | (simp only [List.length_drop, List.length_take]; rfl)) ?_; (with_reducible refine (word_Parse.calls k2 _ _ t274 (rdOf ByteArray.empty y283 x19_2) t287 t290 t291 _ ?side1 ?side2 A43.out).mono ?_); (case side1 => repeat (first | exact (Kd.R_reads' HO_15.out).2.2 | (with_reducible refine Kd.C_alloc ?_ _) | (with_reducible refine Kd.C_drewN ?_ _) | (with_reducible refine Kd.C_drew ?_))); (case side2 => exact (Kd.R_reads' HO_15.out).2.1); rintro e w63 ⟨v288, rfl, ho0, hb⟩; refine ⟨_, rfl, ?_⟩; have n0_ := Aside0.mk (Kd.R_below (by (with_reducible repeat (first | apply Kd.R_alloc | apply Kd.R_drewN | apply Kd.R_drew)); exact HO_15.out) hb); have n1_ := Aside0.mk (Kd.R_below (by (with_reducible repeat (first | apply Kd.R_alloc | apply Kd.R_drewN | apply Kd.R_drew)); exact HO_18.out) hb); have n2_ := Aside0.mk (Kd.V_lower (Kd.V_mono (ok' := fun k_ => some k_ ≠ (.slice Ao33 t274.length co33 : Value).ownBlock ∧ some k_ ≠ (.slice (some ad286) y283.length co62 : Value).ownBlock) ho0 (fun k_ hk_ => ⟨(Kd.fresh' (Kd.R_lt (by (with_reducible repeat (first | apply Kd.R_alloc | apply Kd.R_drewN | apply Kd.R_drew)); exact HO_15.out)) k_ hk_), (Kd.fresh' (Kd.R_lt (by (with_reducible repeat (first | apply Kd.R_alloc | apply Kd.R_drewN | apply Kd.R_drew)); exact HO_18.out)) k_ hk_)⟩)) (below_size (by repeat (first | (with_reducible first | exact HB.out | apply below_alloc | apply pw_below_drewN | apply below_drew1) | exact HB.out)))); have n3_ := Aside0.mk (below_step (by repeat (first | (with_reducible first | exact HB.out | apply below_alloc | apply pw_below_drewN | apply below_drew1) | exact HB.out)) hb); clear HO_15; clear HO_18; clear HB; have HO_15 := n0_; have HO_18 := n1_; have HO289 := n2_; have HB := n3_; clear n0_ n1_ n2_ n3_; (try clear hb); (try clear hb2); (try clear hk); (try clear hi); (try clear ho0); have p292 : 0 ≤ (x19_2 : Int) := of_decide_eq_true (by first | (with_reducible assumption) | assumption); have q292 : x19_2 < (y283.length : Int) := of_decide_eq_true (by first | (with_reducible assumption) | assumption); obtain ⟨ad292, e292, hx292_0⟩ := Kd.at_string (Kd.R_reads' HO_18.out).2.2 x19_2 p292 q292; obtain rfl : ad286 = ad292 := (by injection e292); replace p292 := eq_true p292; replace q292 := eq_true q292) | ((with_reducible refine gate_callee (f := 22) rfl ?_); refine goesL_ (some 98) rfl rfl Try.func22 (by kernel_rfl) rfl #[.slice Ao33 t274.length co33, .string (rdOf ByteArray.empty y283 x19_2)] rfl (by (try simp only [List.map_toArray, List.map_cons, List.map_nil]); first | done | rfl | (simp only [List.length_drop, List.length_take]; rfl)) ?_; (with_reducible refine (canopyref1_Parse.calls k2 _ _ t274 (rdOf ByteArray.empty y283 x19_2) t293 t294 t295 _ ?side1 ?side2 A44.out).mono ?_); (case side1 => repeat (first | exact (Kd.R_reads' HO_15.out).2.2 | (with_reducible refine Kd.C_alloc ?_ _) | (with_reducible refine Kd.C_drewN ?_ _) | (with_reducible refine Kd.C_drew ?_))); (case side2 => exact (Kd.R_reads' HO_15.out).2.1); rintro e w64 ⟨v296, rfl, ho0, hb⟩; refine ⟨_, rfl, ?_⟩; have n0_ := Aside0.mk (Kd.R_below (by (with_reducible repeat (first | apply Kd.R_alloc | apply Kd.R_drewN | apply Kd.R_drew)); exact HO_15.out) hb); have n1_ := Aside0.mk (Kd.R_below (by (with_reducible repeat (first | apply Kd.R_alloc | apply Kd.R_drewN | apply Kd.R_drew)); exact HO_18.out) hb); have n2_ := Aside0.mk (Kd.V_elder' (by (with_reducible repeat (first | apply Kd.V_alloc | apply Kd.V_drewN | apply Kd.V_drew)); exact HO289.out) (Kd.R_base ho0) hb); have n3_ := Aside0.mk (Kd.R_lower ho0 (below_size (by repeat (first | (with_reducible first | exact HB.out | apply below_alloc | apply pw_below_drewN | apply below_drew1) | exact HB.out)))); have n4_ := Aside0.mk (below_step (by repeat (first | (with_reducible first | exact HB.out | apply below_alloc | apply pw_below_drewN | apply below_drew1) | exact HB.out)) hb); clear HO_15; clear HO_18; clear HO289; clear HB; have HO_15 := n0_; have HO_18 := n1_; have HO289 := n2_; have HO297 := n3_; have HB := n4_; clear n0_ n1_ n2_ n3_ n4_; (try clear hb); (try clear hb2); (try clear hk); (try clear hi); (try clear ho0)) | (go_at_call 17; (with_reducible refine (word_Parse.calls k2 _ _ t274 (rdOf ByteArray.empty y283 x19_2) t287 t290 t291 _ ?side1 ?side2 A43.out).mono ?_); (case side1 => repeat (first | exact (Kd.R_reads' HO_15.out).2.2 | (with_reducible refine Kd.C_alloc ?_ _) | (with_reducible refine Kd.C_drewN ?_ _) | (with_reducible refine Kd.C_drew ?_))); (case side2 => exact (Kd.R_reads' HO_15.out).2.1); rintro e w63 ⟨v288, rfl, ho0, hb⟩; have n0_ := Aside0.mk (Kd.R_below (by (with_reducible repeat (first | apply Kd.R_alloc | apply Kd.R_drewN | apply Kd.R_drew)); exact HO_15.out) hb); have n1_ := Aside0.mk (Kd.R_below (by (with_reducible repeat (first | apply Kd.R_alloc | apply Kd.R_drewN | apply Kd.R_drew)); exact HO_18.out) hb); have n2_ := Aside0.mk (Kd.V_lower (Kd.V_mono (ok' := fun k_ => some k_ ≠ (.slice Ao33 t274.length co33 : Value).ownBlock ∧ some k_ ≠ (.slice (some ad286) y283.length co62 : Value).ownBlock) ho0 (fun k_ hk_ => ⟨(Kd.fresh' (Kd.R_lt (by (with_reducible repeat (first | apply Kd.R_alloc | apply Kd.R_drewN | apply Kd.R_drew)); exact HO_15.out)) k_ hk_), (Kd.fresh' (Kd.R_lt (by (with_reducible repeat (first | apply Kd.R_alloc | apply Kd.R_drewN | apply Kd.R_drew)); exact HO_18.out)) k_ hk_)⟩)) (below_size (by repeat (first | (with_reducible first | exact HB.out | apply below_alloc | apply pw_below_drewN | apply below_drew1) | exact HB.out)))); have n3_ := Aside0.mk (below_step (by repeat (first | (with_reducible first | exact HB.out | apply below_alloc | apply pw_below_drewN | apply below_drew1) | exact HB.out)) hb); clear HO_15; clear HO_18; clear HB; have HO_15 := n0_; have HO_18 := n1_; have HO289 := n2_; have HB := n3_; clear n0_ n1_ n2_ n3_; (try clear hb); (try clear hb2); (try clear hk); (try clear hi); (try clear ho0); have p292 : 0 ≤ (x19_2 : Int) := of_decide_eq_true (by first | (with_reducible assumption) | assumption); have q292 : x19_2 < (y283.length : Int) := of_decide_eq_true (by first | (with_reducible assumption) | assumption); obtain ⟨ad292, e292, hx292_0⟩ := Kd.at_string (Kd.R_reads' HO_18.out).2.2 x19_2 p292 q292; obtain rfl : ad286 = ad292 := (by injection e292); replace p292 := eq_true p292; replace q292 := eq_true q292) | (go_at_call 22; (with_reducible refine (canopyref1_Parse.calls k2 _ _ t274 (rdOf ByteArray.empty y283 x19_2) t293 t294 t295 _ ?side1 ?side2 A44.out).mono ?_); (case side1 => repeat (first | exact (Kd.R_reads' HO_15.out).2.2 | (with_reducible refine Kd.C_alloc ?_ _) | (with_reducible refine Kd.C_drewN ?_ _) | (with_reducible refine Kd.C_drew ?_))); (case side2 => exact (Kd.R_reads' HO_15.out).2.1); rintro e w64 ⟨v296, rfl, ho0, hb⟩; have n0_ := Aside0.mk (Kd.R_below (by (with_reducible repeat (first | apply Kd.R_alloc | apply Kd.R_drewN | apply Kd.R_drew)); exact HO_15.out) hb); have n1_ := Aside0.mk (Kd.R_below (by (with_reducible repeat (first | apply Kd.R_alloc | apply Kd.R_drewN | apply Kd.R_drew)); exact HO_18.out) hb); have n2_ := Aside0.mk (Kd.V_elder' (by (with_reducible repeat (first | apply Kd.V_alloc | apply Kd.V_drewN | apply Kd.V_drew)); exact HO289.out) (Kd.R_base ho0) hb); have n3_ := Aside0.mk (Kd.R_lower ho0 (below_size (by repeat (first | (with_reducible first | exact HB.out | apply below_alloc | apply pw_below_drewN | apply below_drew1) | exact HB.out)))); have n4_ := Aside0.mk (below_step (by repeat (first | (with_reducible first | exact HB.out | apply below_alloc | apply pw_below_drewN | apply below_drew1) | exact HB.out)) hb); clear HO_15; clear HO_18; clear HO289; clear HB; have HO_15 := n0_; have HO_18 := n1_; have HO289 := n2_; have HO297 := n3_; have HB := n4_; clear n0_ n1_ n2_ n3_ n4_; (try clear hb); (try clear hb2); (try clear hk); (try clear hi); (try clear ho0)))
                                      go_ret
                                      exact ⟨by first | rfl | (simp [errW_none, errW_some] <;> rfl) | (simp [*, errW_none, errW_some] <;> rfl), by repeat (first | (with_reducible first | exact HB.out | apply below_alloc | apply pw_below_drewN | apply below_drew1) | exact HB.out)⟩
                                  · rw [if_neg c42] at H
                                    exact absurd H (by simp)
                                · rw [if_neg c41] at H
                                  have c41b0 : decide (x19_2 < (y283.length : Int)) = false := decide_eq_false c41
                                  clear c41
                                  obtain rfl := Option.some.inj H
                                  obtain ⟨Ao65, co65, eo65⟩ := Kd.R_slice HO_18.out
                                  subst eo65
                                  go_wp2
                                  go_ret
                                  exact ⟨by first | rfl | (simp [errW_none, errW_some] <;> rfl) | (simp [*, errW_none, errW_some] <;> rfl), by repeat (first | (with_reducible first | exact HB.out | apply below_alloc | apply pw_below_drewN | apply below_drew1) | exact HB.out)⟩
                          · rw [if_neg c31] at H
                            exact absurd H (by simp)
                        · rw [if_neg c30] at H
                          exact absurd H (by simp)
                      · rw [if_neg c29] at H
                        exact absurd H (by simp)
                    · rw [if_neg c28] at H
                      exact absurd H (by simp)
                  · rw [if_neg c27] at H
                    exact absurd H (by simp)
                · rw [if_neg c26] at H
                  exact absurd H (by simp)
              · rw [if_neg c23] at H
                exact absurd H (by simp)
            · rw [if_neg c20] at H
              exact absurd H (by simp)
          · rw [if_neg c19] at H
            exact absurd H (by simp)
  · replace c9 := Bool.eq_false_iff.mpr c9
    subst c9
    have H1 : (some false) = some r := by rw [if_neg (show ¬ (false = true) by decide)] at H; exact H
    clear H
    have H := H1
    clear H1
    obtain rfl := Option.some.inj H
    go_enter Try.func4, Try.ntmps4
    go_wp2_with (first | ((with_reducible refine gate_callee (f := 13) rfl ?_); refine goesL_ (some 26) rfl rfl Try.func13 (by kernel_rfl) rfl #[] rfl (by (try simp only [List.map_toArray, List.map_cons, List.map_nil]); first | done | rfl | (simp only [List.length_drop, List.length_take]; rfl)) ?_; (with_reducible refine (canopylaw1_known.calls k  false _ A8.out).mono ?_); rintro e w66 ⟨rfl, hb⟩; refine ⟨_, rfl, ?_⟩; have n0_ := Aside0.mk (below_step (by repeat (first | (with_reducible first | exact HB.out | apply below_alloc | apply pw_below_drewN | apply below_drew1) | exact HB.out)) hb); clear HB; have HB := n0_; clear n0_; (try clear hb); (try clear hb2); (try clear hk); (try clear hi)) | (go_at_call 13; (with_reducible refine (canopylaw1_known.calls k  false _ A8.out).mono ?_); rintro e w66 ⟨rfl, hb⟩; have n0_ := Aside0.mk (below_step (by repeat (first | (with_reducible first | exact HB.out | apply below_alloc | apply pw_below_drewN | apply below_drew1) | exact HB.out)) hb); clear HB; have HB := n0_; clear n0_; (try clear hb); (try clear hb2); (try clear hk); (try clear hi)))
    go_ret
    exact ⟨by first | rfl | (simp [errW_none, errW_some] <;> rfl) | (simp [*, errW_none, errW_some] <;> rfl), by repeat (first | (with_reducible first | exact HB.out | apply below_alloc | apply pw_below_drewN | apply below_drew1) | exact HB.out)⟩

/-- THE ONE PURE STATEMENT of canopylaw1_WordReads: yours. -/
def canopylaw1_WordReads.Pure : Prop := ∀ (a0 : Int) (l1 : List Int) (a2 : Int) (a3 : Int) (a4 : Int) (a5 : ByteArray) (a6 : ByteArray), (Lit.int .i64 a0).wf = true → l1.length ≤ maxLen → l1.length * 8 ≤ 140737488351232 → (∀ x ∈ l1, (Lit.int .i64 x).wf = true) → (Lit.int .i64 a2).wf = true → (Lit.int .u8 a3).wf = true → (Lit.int .i64 a4).wf = true → a5.size ≤ 140737488351232 → a6.size ≤ 140737488351232 → ∃ k, canopylaw1_WordReads.f k a0 l1 a2 a3 a4 a5 a6 = some true
theorem canopylaw1_WordReads.walk (P : canopylaw1_WordReads.Pure) (a0 : Int) (a1 : Option Addr) (len1 cap1 : Nat) (z1 : List Int) (a2 : Int) (a3 : Int) (a4 : Int) (a5 : ByteArray) (a6 : ByteArray) (w : World) (w0 : (Lit.int .i64 a0).wf = true) (w1 : (a1 = none ∧ len1 = 0 ∧ cap1 = 0 ∧ z1 = []) ∨ ∃ x, a1 = some x ∧ len1 ≤ cap1 ∧ cap1 ≤ maxLen ∧ z1.length = cap1 ∧ (∀ i, i < z1.length → w.cell? (x.add i) = some (.int .i64 (z1.getD i 0))) ∧ ∀ n ∈ z1, (Lit.int .i64 n).wf = true) (y1 : len1 * 8 ≤ 140737488351232) (w2 : (Lit.int .i64 a2).wf = true) (w3 : (Lit.int .u8 a3).wf = true) (w4 : (Lit.int .i64 a4).wf = true) (w5 : a5.size ≤ 140737488351232) (w6 : a6.size ≤ 140737488351232) :
    Calls Try.prog 4 #[.int .i64 a0, .slice a1 len1 cap1, .int .i64 a2, .int .u8 a3, .int .i64 a4, .string a5, .string a6] w fun e w' => e = .returned (.bool true) ∧ Below w.heap.size w w' := by
  obtain ⟨l1, rfl, hr1, hm1, hw1, hc1⟩ := ReadsInt.ofRowC w1
  obtain ⟨k, h⟩ := P a0 l1 a2 a3 a4 a5 a6 w0 hm1 y1 hw1 w2 w3 w4 w5 w6
  refine (canopylaw1_WordReads.calls k a0 _ _ l1 a2 a3 a4 a5 a6 true w (Kd.C_of_reads (d := (0 : Int)) (h1 := fun _ => rfl) hr1) hc1 h).mono ?_
  rintro e w' ⟨rfl, hd⟩
  exact ⟨rfl, hd⟩

end Go.Proofs.Ytiibfkjfanglbaa.P
