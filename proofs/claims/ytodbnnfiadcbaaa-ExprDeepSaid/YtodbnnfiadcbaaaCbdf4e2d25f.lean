/- What a statement's proof needs: walks of the program's functions, and what they tell (part 4). -/
import Derived.Test.YtodbnnfiadcbaaaCf6c1c9d7ac
namespace Go.Proofs.Ytodbnnfiadcbaaa.P
open Go.RowKit Go.Proofs.YtodbnnfiadcbaaaW.PrintWords Go.Proofs.YtodbnnfiadcbaaaW.PrintLast Go.Proofs.YtodbnnfiadcbaaaW.PrintMore
attribute [local go_sem] max2_int min2_int max_two min_two max_three min_three max_four min_four   -- for this text's walks alone
set_option linter.unusedVariables false
set_option linter.unusedSimpArgs false

/-! ### expr_parser_atom: function 86 -/
set_option maxHeartbeats 8000000 in
set_option maxRecDepth 100000 in
theorem expr_parser_atom.step (k : Nat) (ih41 : ∀ m, m < k → expr_parser_or.S m) (ih61 : ∀ m, m < k → expr_parser_cat.S m) (ih80 : ∀ m, m < k → expr_parser_rep.S m) (ih86 : ∀ m, m < k → expr_parser_atom.S m) (ih92 : ∀ m, m < k → expr_parser_within.S m) : ∀ (g : Nat) (s0_0 : List (S56)) (s0_1 : ByteArray) (s0_2 : Int) (s0_3 : Int) (s0_4 : Int) (s0_5 : ByteArray) (s0_6 : Int) (s0_7 : Int) (s0_8 : Int) (s0_9 : Int) (s0_10 : Int) (r1 : Int) (r2 : Int) (r3 : Int) (r4 : List (S28)) (r5 : ByteArray) (r6 : Int) (r7 : Int) (r8 : Int) (r9 : ByteArray) (r10 : Int) (r11 : Int) (r12 : Int) (r13 : Int) (r14 : Int) (w0 w : World) (hI : IsS75 w0 w g s0_0 s0_1 s0_2 s0_3 s0_4 s0_5 s0_6 s0_7 s0_8 s0_9 s0_10) (hB : Below w0.heap.size w0 w) (h : expr_parser_atom.f k s0_0 s0_1 s0_2 s0_3 s0_4 s0_5 s0_6 s0_7 s0_8 s0_9 s0_10 = some (r1, r2, r3, r4, r5, r6, r7, r8, r9, r10, r11, r12, r13, r14)),
    Calls Try.prog 86 #[.pointer (some ⟨g, 0, none⟩)] w fun e w' => ∃ v3_ : Value, e = .returned (.agg #[.int .i64 r1, .int .i64 r2, .int .i64 r3, v3_]) ∧ Kd.V k28 28 w' w.heap.size (fun k_ => (w.heap.size ≤ k_)) v3_ r4 ∧ IsS75 w0 w' g s0_0 r5 r6 r7 r8 r9 r10 r11 r12 r13 r14 ∧ Below w0.heap.size w0 w' ∧ KeepBut w w' g none := by
  intro g s0_0 s0_1 s0_2 s0_3 s0_4 s0_5 s0_6 s0_7 s0_8 s0_9 s0_10 r1 r2 r3 r4 r5 r6 r7 r8 r9 r10 r11 r12 r13 r14 w0 w hI hB h
  cases k with
  | zero => exact absurd h (by simp [expr_parser_atom.f])
  | succ k =>
  simp only [expr_parser_atom.f] at h
  have hu28 := Try.underlying28
  have HI0 := Aside0.mk hI
  have HK := Aside0.mk (KeepBut.refl w g none)
  have HL := Aside0.mk hB.size
  clear hI
  have HW0 := Aside0.mk hB.size
  have HB := Aside0.mk hB
  clear hB
  have H : ((expr_parser_is.f s0_0 s0_1 s0_2 s0_3 s0_4 s0_5 s0_6 s0_7 s0_8 s0_9 s0_10 48).bind fun bt272 => (if bt272.1 = true then ((expr_parser_next.f k s0_0 bt272.2.1 bt272.2.2.1 bt272.2.2.2.1 bt272.2.2.2.2.1 bt272.2.2.2.2.2.1 bt272.2.2.2.2.2.2.1 bt272.2.2.2.2.2.2.2.1 bt272.2.2.2.2.2.2.2.2.1 bt272.2.2.2.2.2.2.2.2.2.1 bt272.2.2.2.2.2.2.2.2.2.2).bind fun bt283 => (some (1, 0, 0, ([] : List (S28)), bt283.1, bt283.2.1, bt283.2.2.1, bt283.2.2.2.1, bt283.2.2.2.2.1, bt283.2.2.2.2.2.1, bt283.2.2.2.2.2.2.1, bt283.2.2.2.2.2.2.2.1, bt283.2.2.2.2.2.2.2.2.1, bt283.2.2.2.2.2.2.2.2.2))) else ((expr_parser_is.f s0_0 bt272.2.1 bt272.2.2.1 bt272.2.2.2.1 bt272.2.2.2.2.1 bt272.2.2.2.2.2.1 bt272.2.2.2.2.2.2.1 bt272.2.2.2.2.2.2.2.1 bt272.2.2.2.2.2.2.2.2.1 bt272.2.2.2.2.2.2.2.2.2.1 bt272.2.2.2.2.2.2.2.2.2.2 49).bind fun bt293 => (if bt293.1 = true then ((expr_parser_next.f k s0_0 bt293.2.1 bt293.2.2.1 bt293.2.2.2.1 bt293.2.2.2.2.1 bt293.2.2.2.2.2.1 bt293.2.2.2.2.2.2.1 bt293.2.2.2.2.2.2.2.1 bt293.2.2.2.2.2.2.2.2.1 bt293.2.2.2.2.2.2.2.2.2.1 bt293.2.2.2.2.2.2.2.2.2.2).bind fun bt304 => (some (2, 0, 0, ([] : List (S28)), bt304.1, bt304.2.1, bt304.2.2.1, bt304.2.2.2.1, bt304.2.2.2.2.1, bt304.2.2.2.2.2.1, bt304.2.2.2.2.2.2.1, bt304.2.2.2.2.2.2.2.1, bt304.2.2.2.2.2.2.2.2.1, bt304.2.2.2.2.2.2.2.2.2))) else ((expr_parser_is.f s0_0 bt293.2.1 bt293.2.2.1 bt293.2.2.2.1 bt293.2.2.2.2.1 bt293.2.2.2.2.2.1 bt293.2.2.2.2.2.2.1 bt293.2.2.2.2.2.2.2.1 bt293.2.2.2.2.2.2.2.2.1 bt293.2.2.2.2.2.2.2.2.2.1 bt293.2.2.2.2.2.2.2.2.2.2 40).bind fun bt314 => (if bt314.1 = true then ((expr_parser_within.f k s0_0 bt314.2.1 bt314.2.2.1 bt314.2.2.2.1 bt314.2.2.2.2.1 bt314.2.2.2.2.2.1 bt314.2.2.2.2.2.2.1 bt314.2.2.2.2.2.2.2.1 bt314.2.2.2.2.2.2.2.2.1 bt314.2.2.2.2.2.2.2.2.2.1 bt314.2.2.2.2.2.2.2.2.2.2).bind fun bt325 => ((expr_parser_is.f s0_0 bt325.2.2.2.2.1 bt325.2.2.2.2.2.1 bt325.2.2.2.2.2.2.1 bt325.2.2.2.2.2.2.2.1 bt325.2.2.2.2.2.2.2.2.1 bt325.2.2.2.2.2.2.2.2.2.1 bt325.2.2.2.2.2.2.2.2.2.2.1 bt325.2.2.2.2.2.2.2.2.2.2.2.1 bt325.2.2.2.2.2.2.2.2.2.2.2.2.1 bt325.2.2.2.2.2.2.2.2.2.2.2.2.2 41).bind fun bt341 => (if bt341.1 = true then ((expr_parser_next.f k s0_0 bt341.2.1 bt341.2.2.1 bt341.2.2.2.1 bt341.2.2.2.2.1 bt341.2.2.2.2.2.1 bt341.2.2.2.2.2.2.1 bt341.2.2.2.2.2.2.2.1 bt341.2.2.2.2.2.2.2.2.1 bt341.2.2.2.2.2.2.2.2.2.1 bt341.2.2.2.2.2.2.2.2.2.2).bind fun bt352 => (some (bt325.1, bt325.2.1, bt325.2.2.1, bt325.2.2.2.1, bt352.1, bt352.2.1, bt352.2.2.1, bt352.2.2.2.1, bt352.2.2.2.2.1, bt352.2.2.2.2.2.1, bt352.2.2.2.2.2.2.1, bt352.2.2.2.2.2.2.2.1, bt352.2.2.2.2.2.2.2.2.1, bt352.2.2.2.2.2.2.2.2.2))) else ((expr_parser_wrong.f s0_0 bt341.2.1 bt341.2.2.1 bt341.2.2.2.1 bt341.2.2.2.2.1 bt341.2.2.2.2.2.1 bt341.2.2.2.2.2.2.1 bt341.2.2.2.2.2.2.2.1 bt341.2.2.2.2.2.2.2.2.1 bt341.2.2.2.2.2.2.2.2.2.1 bt341.2.2.2.2.2.2.2.2.2.2 1).bind fun bt362 => ((expr_parser_next.f k s0_0 bt362.1 bt362.2.1 bt362.2.2.1 bt362.2.2.2.1 bt362.2.2.2.2.1 bt362.2.2.2.2.2.1 bt362.2.2.2.2.2.2.1 bt362.2.2.2.2.2.2.2.1 bt362.2.2.2.2.2.2.2.2.1 bt362.2.2.2.2.2.2.2.2.2).bind fun bt372 => (some (bt325.1, bt325.2.1, bt325.2.2.1, bt325.2.2.2.1, bt372.1, bt372.2.1, bt372.2.2.1, bt372.2.2.2.1, bt372.2.2.2.2.1, bt372.2.2.2.2.2.1, bt372.2.2.2.2.2.2.1, bt372.2.2.2.2.2.2.2.1, bt372.2.2.2.2.2.2.2.2.1, bt372.2.2.2.2.2.2.2.2.2))))))) else (if bt314.2.2.2.2.1 = 4 then ((expr_parser_sym.f k s0_0 bt314.2.1 bt314.2.2.1 bt314.2.2.2.1 bt314.2.2.2.2.1 bt314.2.2.2.2.2.1 bt314.2.2.2.2.2.2.1 bt314.2.2.2.2.2.2.2.1 bt314.2.2.2.2.2.2.2.2.1 bt314.2.2.2.2.2.2.2.2.2.1 bt314.2.2.2.2.2.2.2.2.2.2).bind fun bt382 => ((expr_parser_next.f k s0_0 bt382.2.1 bt382.2.2.1 bt382.2.2.2.1 bt382.2.2.2.2.1 bt382.2.2.2.2.2.1 bt382.2.2.2.2.2.2.1 bt382.2.2.2.2.2.2.2.1 bt382.2.2.2.2.2.2.2.2.1 bt382.2.2.2.2.2.2.2.2.2.1 bt382.2.2.2.2.2.2.2.2.2.2).bind fun bt393 => (some (3, bt382.1, 0, ([] : List (S28)), bt393.1, bt393.2.1, bt393.2.2.1, bt393.2.2.2.1, bt393.2.2.2.2.1, bt393.2.2.2.2.2.1, bt393.2.2.2.2.2.2.1, bt393.2.2.2.2.2.2.2.1, bt393.2.2.2.2.2.2.2.2.1, bt393.2.2.2.2.2.2.2.2.2)))) else (if bt314.2.2.2.2.1 = 5 then ((expr_parser_sym.f k s0_0 bt314.2.1 bt314.2.2.1 bt314.2.2.2.1 bt314.2.2.2.2.1 bt314.2.2.2.2.2.1 bt314.2.2.2.2.2.2.1 bt314.2.2.2.2.2.2.2.1 bt314.2.2.2.2.2.2.2.2.1 bt314.2.2.2.2.2.2.2.2.2.1 bt314.2.2.2.2.2.2.2.2.2.2).bind fun bt403 => ((expr_parser_within.f k s0_0 bt403.2.1 bt403.2.2.1 bt403.2.2.2.1 bt403.2.2.2.2.1 bt403.2.2.2.2.2.1 bt403.2.2.2.2.2.2.1 bt403.2.2.2.2.2.2.2.1 bt403.2.2.2.2.2.2.2.2.1 bt403.2.2.2.2.2.2.2.2.2.1 bt403.2.2.2.2.2.2.2.2.2.2).bind fun bt414 => ((some (([(⟨bt414.1, bt414.2.1, bt414.2.2.1, bt414.2.2.2.1⟩ : S28)] : List (S28)) : List (S28))).bind fun y430 => (if bt414.2.2.2.2.2.2.2.1 = 6 then ((expr_parser_sym.f k s0_0 bt414.2.2.2.2.1 bt414.2.2.2.2.2.1 bt414.2.2.2.2.2.2.1 bt414.2.2.2.2.2.2.2.1 bt414.2.2.2.2.2.2.2.2.1 bt414.2.2.2.2.2.2.2.2.2.1 bt414.2.2.2.2.2.2.2.2.2.2.1 bt414.2.2.2.2.2.2.2.2.2.2.2.1 bt414.2.2.2.2.2.2.2.2.2.2.2.2.1 bt414.2.2.2.2.2.2.2.2.2.2.2.2.2).bind fun bt433 => ((expr_parser_next.f k s0_0 bt433.2.1 bt433.2.2.1 bt433.2.2.2.1 bt433.2.2.2.2.1 bt433.2.2.2.2.2.1 bt433.2.2.2.2.2.2.1 bt433.2.2.2.2.2.2.2.1 bt433.2.2.2.2.2.2.2.2.1 bt433.2.2.2.2.2.2.2.2.2.1 bt433.2.2.2.2.2.2.2.2.2.2).bind fun bt444 => (some (4, bt403.1, bt433.1, y430, bt444.1, bt444.2.1, bt444.2.2.1, bt444.2.2.2.1, bt444.2.2.2.2.1, bt444.2.2.2.2.2.1, bt444.2.2.2.2.2.2.1, bt444.2.2.2.2.2.2.2.1, bt444.2.2.2.2.2.2.2.2.1, bt444.2.2.2.2.2.2.2.2.2)))) else ((expr_parser_wrong.f s0_0 bt414.2.2.2.2.1 bt414.2.2.2.2.2.1 bt414.2.2.2.2.2.2.1 bt414.2.2.2.2.2.2.2.1 bt414.2.2.2.2.2.2.2.2.1 bt414.2.2.2.2.2.2.2.2.2.1 bt414.2.2.2.2.2.2.2.2.2.2.1 bt414.2.2.2.2.2.2.2.2.2.2.2.1 bt414.2.2.2.2.2.2.2.2.2.2.2.2.1 bt414.2.2.2.2.2.2.2.2.2.2.2.2.2 1).bind fun bt454 => ((expr_parser_next.f k s0_0 bt454.1 bt454.2.1 bt454.2.2.1 bt454.2.2.2.1 bt454.2.2.2.2.1 bt454.2.2.2.2.2.1 bt454.2.2.2.2.2.2.1 bt454.2.2.2.2.2.2.2.1 bt454.2.2.2.2.2.2.2.2.1 bt454.2.2.2.2.2.2.2.2.2).bind fun bt464 => (some (4, bt403.1, 0, y430, bt464.1, bt464.2.1, bt464.2.2.1, bt464.2.2.2.1, bt464.2.2.2.2.1, bt464.2.2.2.2.2.1, bt464.2.2.2.2.2.2.1, bt464.2.2.2.2.2.2.2.1, bt464.2.2.2.2.2.2.2.2.1, bt464.2.2.2.2.2.2.2.2.2)))))))) else ((expr_parser_wrong.f s0_0 bt314.2.1 bt314.2.2.1 bt314.2.2.2.1 bt314.2.2.2.2.1 bt314.2.2.2.2.2.1 bt314.2.2.2.2.2.2.1 bt314.2.2.2.2.2.2.2.1 bt314.2.2.2.2.2.2.2.2.1 bt314.2.2.2.2.2.2.2.2.2.1 bt314.2.2.2.2.2.2.2.2.2.2 1).bind fun bt474 => ((expr_parser_next.f k s0_0 bt474.1 bt474.2.1 bt474.2.2.1 bt474.2.2.2.1 bt474.2.2.2.2.1 bt474.2.2.2.2.2.1 bt474.2.2.2.2.2.2.1 bt474.2.2.2.2.2.2.2.1 bt474.2.2.2.2.2.2.2.2.1 bt474.2.2.2.2.2.2.2.2.2).bind fun bt484 => (some (0, 0, 0, ([] : List (S28)), bt484.1, bt484.2.1, bt484.2.2.1, bt484.2.2.2.1, bt484.2.2.2.2.1, bt484.2.2.2.2.2.1, bt484.2.2.2.2.2.2.1, bt484.2.2.2.2.2.2.2.1, bt484.2.2.2.2.2.2.2.2.1, bt484.2.2.2.2.2.2.2.2.2)))))))))))) = some (r1, r2, r3, r4, r5, r6, r7, r8, r9, r10, r11, r12, r13, r14) := h
  clear h
  replace H := Option.bind_eq_some_iff.mp H
  obtain ⟨⟨t272, t273, t274, t275, t276, t277, t278, t279, t280, t281, t282⟩, A20, H⟩ := H
  try dsimp only at H
  have A2 := Aside0.mk A20
  clear A20
  by_cases c3 : t272 = true
  · subst c3
    rw [if_pos rfl] at H
    replace H := Option.bind_eq_some_iff.mp H
    obtain ⟨⟨t283, t284, t285, t286, t287, t288, t289, t290, t291, t292⟩, A40, H⟩ := H
    try dsimp only at H
    have A4 := Aside0.mk A40
    clear A40
    simp only [Option.some.injEq, Prod.mk.injEq] at H
    obtain ⟨rfl, rfl, rfl, rfl, rfl, rfl, rfl, rfl, rfl, rfl, rfl, rfl, rfl, rfl⟩ := H
    go_enter Try.func86, Try.ntmps86
    go_wp2_with (first | ((with_reducible refine gate_dst (N := 2) rfl ?_); refine box_event ?hg (N := 2) ?hd (cs := #[.int .i64 0, .int .i64 0, .int .i64 0, .slice none 0 0]) (t := 28) ?hr ?_; (case hd => rfl); (case hg => rfl); (case hr => (go_simp; done)); intro gb270 hg w5 hbox hb; have n0_ := Aside0.mk (IsS75.below HI0.out hb); have n1_ := Aside0.mk (KeepBut.trans HK.out (KeepBut.of_below hb g none) (.inl rfl)); have n2_ := Aside0.mk (below_step HB.out hb); have n3_ := Aside0.mk (hbox); have n4_ := Aside0.mk ((by rw [hg]; exact (keep_size HK.out) : w.heap.size ≤ gb270)); have n5_ := Aside0.mk ((Nat.le_trans HW0.out (by rw [hg]; exact (keep_size HK.out) : w.heap.size ≤ gb270) : w0.heap.size ≤ gb270)); have n6_ := Aside0.mk ((by rw [hg]; exact Nat.ne_of_lt (IsS75.lt HI0.out) : g ≠ gb270)); have n7_ := Aside0.mk ((by rw [hg]; exact Nat.ne_of_gt (IsS75.lt HI0.out) : gb270 ≠ g)); clear HI0 HK HB; have HI0 := n0_; have HK := n1_; have HB := n2_; have BK270 := n3_; have GW270 := n4_; have GE270 := n5_; have NB0_270 := n6_; have NB270_0 := n7_; clear n0_ n1_ n2_ n3_ n4_ n5_ n6_ n7_ hb hbox hg) | ((with_reducible refine gate_dst (N := 3) rfl ?_); refine box_event ?hg (N := 3) ?hd (cs := #[.int .i64 0, .int .i64 0, .int .i64 0, .slice none 0 0]) (t := 28) ?hr ?_; (case hd => rfl); (case hg => rfl); (case hr => (go_simp; done)); intro gb271 hg w6 hbox hb; have n0_ := Aside0.mk (IsS75.below HI0.out hb); have n1_ := Aside0.mk (blk_below BK270.out hb); have n2_ := Aside0.mk (KeepBut.trans HK.out (KeepBut.of_below hb g none) (.inl rfl)); have n3_ := Aside0.mk (below_step HB.out hb); have n4_ := Aside0.mk (hbox); have n5_ := Aside0.mk ((by rw [hg]; exact (keep_size HK.out) : w.heap.size ≤ gb271)); have n6_ := Aside0.mk ((Nat.le_trans HW0.out (by rw [hg]; exact (keep_size HK.out) : w.heap.size ≤ gb271) : w0.heap.size ≤ gb271)); have n7_ := Aside0.mk ((by rw [hg]; exact Nat.ne_of_lt (blk_lt BK270.out) : gb270 ≠ gb271)); have n8_ := Aside0.mk ((by rw [hg]; exact Nat.ne_of_gt (blk_lt BK270.out) : gb271 ≠ gb270)); have n9_ := Aside0.mk ((by rw [hg]; exact Nat.ne_of_lt (IsS75.lt HI0.out) : g ≠ gb271)); have n10_ := Aside0.mk ((by rw [hg]; exact Nat.ne_of_gt (IsS75.lt HI0.out) : gb271 ≠ g)); clear HI0 BK270 HK HB; have HI0 := n0_; have BK270 := n1_; have HK := n2_; have HB := n3_; have BK271 := n4_; have GW271 := n5_; have GE271 := n6_; have NB270_271 := n7_; have NB271_270 := n8_; have NB0_271 := n9_; have NB271_0 := n10_; clear n0_ n1_ n2_ n3_ n4_ n5_ n6_ n7_ n8_ n9_ n10_ hb hbox hg) | ((with_reducible refine gate_callee (f := 62) rfl ?_); refine goesL_ (some 8) rfl rfl Try.func62 (by kernel_rfl) rfl #[.pointer (some ⟨g, 0, none⟩), .int .u8 48] rfl (by (simp only [List.map_toArray, List.map_cons, List.map_nil]); rfl) ?_; (with_reducible refine (expr_parser_is.calls g s0_0 s0_1 s0_2 s0_3 s0_4 s0_5 s0_6 s0_7 s0_8 s0_9 s0_10 48 true t273 t274 t275 t276 t277 t278 t279 t280 t281 t282 w0 _ HI0.out HB.out A2.out).mono ?_); rintro e w7 ⟨rfl, hi, hb, hk⟩; refine ⟨_, rfl, ?_⟩; have n0_ := Aside0.mk (KeepBut.blk hk BK270.out NB270_0.out (by simp)); have n1_ := Aside0.mk (KeepBut.blk hk BK271.out NB271_0.out (by simp)); have n2_ := Aside0.mk (KeepBut.trans HK.out hk (.inl rfl)); have n3_ := Aside0.mk (hb); have n4_ := Aside0.mk (hi); clear BK270 BK271 HK HB HI0; have BK270 := n0_; have BK271 := n1_; have HK := n2_; have HB := n3_; have HI0 := n4_; clear n0_ n1_ n2_ n3_ n4_ hb hk hi; have hnb8 := NB271_270.out; have hnc8 := NB270_271.out; have hnb9 := NB271_0.out; have hnc9 := NB0_271.out; obtain ⟨hcz10_0, hcz10_1, hcz10_2, hcz10_3, hfz10_0, hfz10_1, hfz10_2, hfz10_3⟩ := Go.Proofs.YtodbnnfiadcbaaaH.cells4 BK271.out) | ((with_reducible refine gate_callee (f := 40) rfl ?_); refine goesL_ (some 60) rfl rfl Try.func40 (by kernel_rfl) rfl #[.pointer (some ⟨g, 0, none⟩)] rfl (by (simp only [List.map_toArray, List.map_cons, List.map_nil]); rfl) ?_; (with_reducible refine (expr_parser_next.calls k g s0_0 t273 t274 t275 t276 t277 t278 t279 t280 t281 t282 t283 t284 t285 t286 t287 t288 t289 t290 t291 t292 w0 _ ?side1 ?side2 A4.out).mono ?_); (case side1 => repeat ((with_reducible first | exact HI0.out | apply IsS75.far_ (hne := NB0_271.out)))); (case side2 => repeat ((with_reducible first | exact HB.out | refine below_set ?_ GE271.out))); rintro e w11 ⟨rfl, hi, hb, hk⟩; refine ⟨_, rfl, ?_⟩; have n0_ := Aside0.mk (KeepBut.blk hk (g' := gb270) (o := .cells #[.int .i64 0, .int .i64 0, .int .i64 0, .slice none 0 0] 28 (0, 0)) (by refine blk_far ?_ NB270_271.out _; exact BK270.out) NB270_0.out (by simp)); have n1_ := Aside0.mk (KeepBut.blk hk (g' := gb271) (o := .cells #[.int .i64 1, .int .i64 0, .int .i64 0, .slice none 0 0] 28 (0, 0)) (by refine blk_put (cs := #[.int .i64 0, .int .i64 0, .int .i64 0, .slice none 0 0]) ?_ 0 _ rfl; exact BK271.out) NB271_0.out (by simp)); have n2_ := Aside0.mk (KeepBut.trans (by repeat ((with_reducible first | exact HK.out | refine keep_far ?_ GW271.out _))) hk (.inl rfl)); have n3_ := Aside0.mk (hb); have n4_ := Aside0.mk (hi); clear BK270 BK271 HK HB HI0; have BK270 := n0_; have BK271 := n1_; have HK := n2_; have HB := n3_; have HI0 := n4_; clear n0_ n1_ n2_ n3_ n4_ hb hk hi; obtain ⟨hcz12_0, hcz12_1, hcz12_2, hcz12_3, hfz12_0, hfz12_1, hfz12_2, hfz12_3⟩ := Go.Proofs.YtodbnnfiadcbaaaH.cells4 BK271.out; have hnb13 := NB270_0.out; have hnc13 := NB0_270.out; obtain ⟨hcz14_0, hcz14_1, hcz14_2, hcz14_3, hfz14_0, hfz14_1, hfz14_2, hfz14_3⟩ := Go.Proofs.YtodbnnfiadcbaaaH.cells4 BK270.out))
    refine bodyPost_ret (results_cell_row rfl _ _ gb270 28 #[.int .i64 1, .int .i64 0, .int .i64 0, .slice none 0 0] (0, 0) _ rfl (by refine blk_put (cs := #[.int .i64 1, .int .i64 0, .int .i64 0, .slice none 0 0]) ?_ 3 _ rfl; refine blk_put (cs := #[.int .i64 1, .int .i64 0, .int .i64 0, .slice none 0 0]) ?_ 2 _ rfl; refine blk_put (cs := #[.int .i64 1, .int .i64 0, .int .i64 0, .slice none 0 0]) ?_ 1 _ rfl; refine blk_put (cs := #[.int .i64 0, .int .i64 0, .int .i64 0, .slice none 0 0]) ?_ 0 _ rfl; exact BK270.out) Try.underlying28 rfl (by kernel_rfl)) rfl ?_
    exact ⟨_, by rfl, (Kd.V_nil _ _ _ _ _), by repeat ((with_reducible first | exact HI0.out | apply IsS75.far_ (hne := NB0_270.out))), by repeat ((with_reducible first | exact HB.out | refine below_set ?_ GE270.out)), by repeat ((with_reducible first | exact HK.out | refine keep_far ?_ GW270.out _))⟩
  · replace c3 := Bool.eq_false_iff.mpr c3
    subst c3
    rw [if_neg (show ¬ (false = true) by decide)] at H
    replace H := Option.bind_eq_some_iff.mp H
    obtain ⟨⟨t293, t294, t295, t296, t297, t298, t299, t300, t301, t302, t303⟩, A150, H⟩ := H
    try dsimp only at H
    have A15 := Aside0.mk A150
    clear A150
    by_cases c16 : t293 = true
    · subst c16
      rw [if_pos rfl] at H
      replace H := Option.bind_eq_some_iff.mp H
      obtain ⟨⟨t304, t305, t306, t307, t308, t309, t310, t311, t312, t313⟩, A170, H⟩ := H
      try dsimp only at H
      have A17 := Aside0.mk A170
      clear A170
      simp only [Option.some.injEq, Prod.mk.injEq] at H
      obtain ⟨rfl, rfl, rfl, rfl, rfl, rfl, rfl, rfl, rfl, rfl, rfl, rfl, rfl, rfl⟩ := H
      go_enter Try.func86, Try.ntmps86
      go_wp2_with (first | ((with_reducible refine gate_dst (N := 2) rfl ?_); refine box_event ?hg (N := 2) ?hd (cs := #[.int .i64 0, .int .i64 0, .int .i64 0, .slice none 0 0]) (t := 28) ?hr ?_; (case hd => rfl); (case hg => rfl); (case hr => (go_simp; done)); intro gb270 hg w18 hbox hb; have n0_ := Aside0.mk (IsS75.below HI0.out hb); have n1_ := Aside0.mk (KeepBut.trans HK.out (KeepBut.of_below hb g none) (.inl rfl)); have n2_ := Aside0.mk (below_step HB.out hb); have n3_ := Aside0.mk (hbox); have n4_ := Aside0.mk ((by rw [hg]; exact (keep_size HK.out) : w.heap.size ≤ gb270)); have n5_ := Aside0.mk ((Nat.le_trans HW0.out (by rw [hg]; exact (keep_size HK.out) : w.heap.size ≤ gb270) : w0.heap.size ≤ gb270)); have n6_ := Aside0.mk ((by rw [hg]; exact Nat.ne_of_lt (IsS75.lt HI0.out) : g ≠ gb270)); have n7_ := Aside0.mk ((by rw [hg]; exact Nat.ne_of_gt (IsS75.lt HI0.out) : gb270 ≠ g)); clear HI0 HK HB; have HI0 := n0_; have HK := n1_; have HB := n2_; have BK270 := n3_; have GW270 := n4_; have GE270 := n5_; have NB0_270 := n6_; have NB270_0 := n7_; clear n0_ n1_ n2_ n3_ n4_ n5_ n6_ n7_ hb hbox hg) | ((with_reducible refine gate_dst (N := 3) rfl ?_); refine box_event ?hg (N := 3) ?hd (cs := #[.int .i64 0, .int .i64 0, .int .i64 0, .slice none 0 0]) (t := 28) ?hr ?_; (case hd => rfl); (case hg => rfl); (case hr => (go_simp; done)); intro gb271 hg w19 hbox hb; have n0_ := Aside0.mk (IsS75.below HI0.out hb); have n1_ := Aside0.mk (blk_below BK270.out hb); have n2_ := Aside0.mk (KeepBut.trans HK.out (KeepBut.of_below hb g none) (.inl rfl)); have n3_ := Aside0.mk (below_step HB.out hb); have n4_ := Aside0.mk (hbox); have n5_ := Aside0.mk ((by rw [hg]; exact (keep_size HK.out) : w.heap.size ≤ gb271)); have n6_ := Aside0.mk ((Nat.le_trans HW0.out (by rw [hg]; exact (keep_size HK.out) : w.heap.size ≤ gb271) : w0.heap.size ≤ gb271)); have n7_ := Aside0.mk ((by rw [hg]; exact Nat.ne_of_lt (blk_lt BK270.out) : gb270 ≠ gb271)); have n8_ := Aside0.mk ((by rw [hg]; exact Nat.ne_of_gt (blk_lt BK270.out) : gb271 ≠ gb270)); have n9_ := Aside0.mk ((by rw [hg]; exact Nat.ne_of_lt (IsS75.lt HI0.out) : g ≠ gb271)); have n10_ := Aside0.mk ((by rw [hg]; exact Nat.ne_of_gt (IsS75.lt HI0.out) : gb271 ≠ g)); clear HI0 BK270 HK HB; have HI0 := n0_; have BK270 := n1_; have HK := n2_; have HB := n3_; have BK271 := n4_; have GW271 := n5_; have GE271 := n6_; have NB270_271 := n7_; have NB271_270 := n8_; have NB0_271 := n9_; have NB271_0 := n10_; clear n0_ n1_ n2_ n3_ n4_ n5_ n6_ n7_ n8_ n9_ n10_ hb hbox hg) | ((with_reducible refine gate_callee (f := 62) rfl ?_); refine goesL_ (some 8) rfl rfl Try.func62 (by kernel_rfl) rfl #[.pointer (some ⟨g, 0, none⟩), .int .u8 48] rfl (by (simp only [List.map_toArray, List.map_cons, List.map_nil]); rfl) ?_; (with_reducible refine (expr_parser_is.calls g s0_0 s0_1 s0_2 s0_3 s0_4 s0_5 s0_6 s0_7 s0_8 s0_9 s0_10 48 false t273 t274 t275 t276 t277 t278 t279 t280 t281 t282 w0 _ HI0.out HB.out A2.out).mono ?_); rintro e w20 ⟨rfl, hi, hb, hk⟩; refine ⟨_, rfl, ?_⟩; have n0_ := Aside0.mk (KeepBut.blk hk BK270.out NB270_0.out (by simp)); have n1_ := Aside0.mk (KeepBut.blk hk BK271.out NB271_0.out (by simp)); have n2_ := Aside0.mk (KeepBut.trans HK.out hk (.inl rfl)); have n3_ := Aside0.mk (hb); have n4_ := Aside0.mk (hi); clear BK270 BK271 HK HB HI0; have BK270 := n0_; have BK271 := n1_; have HK := n2_; have HB := n3_; have HI0 := n4_; clear n0_ n1_ n2_ n3_ n4_ hb hk hi) | ((with_reducible refine gate_callee (f := 62) rfl ?_); refine goesL_ (some 12) rfl rfl Try.func62 (by kernel_rfl) rfl #[.pointer (some ⟨g, 0, none⟩), .int .u8 49] rfl (by (simp only [List.map_toArray, List.map_cons, List.map_nil]); rfl) ?_; (with_reducible refine (expr_parser_is.calls g s0_0 t273 t274 t275 t276 t277 t278 t279 t280 t281 t282 49 true t294 t295 t296 t297 t298 t299 t300 t301 t302 t303 w0 _ HI0.out HB.out A15.out).mono ?_); rintro e w21 ⟨rfl, hi, hb, hk⟩; refine ⟨_, rfl, ?_⟩; have n0_ := Aside0.mk (KeepBut.blk hk BK270.out NB270_0.out (by simp)); have n1_ := Aside0.mk (KeepBut.blk hk BK271.out NB271_0.out (by simp)); have n2_ := Aside0.mk (KeepBut.trans HK.out hk (.inl rfl)); have n3_ := Aside0.mk (hb); have n4_ := Aside0.mk (hi); clear BK270 BK271 HK HB HI0; have BK270 := n0_; have BK271 := n1_; have HK := n2_; have HB := n3_; have HI0 := n4_; clear n0_ n1_ n2_ n3_ n4_ hb hk hi; have hnb22 := NB271_270.out; have hnc22 := NB270_271.out; have hnb23 := NB271_0.out; have hnc23 := NB0_271.out; obtain ⟨hcz24_0, hcz24_1, hcz24_2, hcz24_3, hfz24_0, hfz24_1, hfz24_2, hfz24_3⟩ := Go.Proofs.YtodbnnfiadcbaaaH.cells4 BK271.out) | ((with_reducible refine gate_callee (f := 40) rfl ?_); refine goesL_ (some 60) rfl rfl Try.func40 (by kernel_rfl) rfl #[.pointer (some ⟨g, 0, none⟩)] rfl (by (simp only [List.map_toArray, List.map_cons, List.map_nil]); rfl) ?_; (with_reducible refine (expr_parser_next.calls k g s0_0 t294 t295 t296 t297 t298 t299 t300 t301 t302 t303 t304 t305 t306 t307 t308 t309 t310 t311 t312 t313 w0 _ ?side1 ?side2 A17.out).mono ?_); (case side1 => repeat ((with_reducible first | exact HI0.out | apply IsS75.far_ (hne := NB0_271.out)))); (case side2 => repeat ((with_reducible first | exact HB.out | refine below_set ?_ GE271.out))); rintro e w25 ⟨rfl, hi, hb, hk⟩; refine ⟨_, rfl, ?_⟩; have n0_ := Aside0.mk (KeepBut.blk hk (g' := gb270) (o := .cells #[.int .i64 0, .int .i64 0, .int .i64 0, .slice none 0 0] 28 (0, 0)) (by refine blk_far ?_ NB270_271.out _; exact BK270.out) NB270_0.out (by simp)); have n1_ := Aside0.mk (KeepBut.blk hk (g' := gb271) (o := .cells #[.int .i64 2, .int .i64 0, .int .i64 0, .slice none 0 0] 28 (0, 0)) (by refine blk_put (cs := #[.int .i64 0, .int .i64 0, .int .i64 0, .slice none 0 0]) ?_ 0 _ rfl; exact BK271.out) NB271_0.out (by simp)); have n2_ := Aside0.mk (KeepBut.trans (by repeat ((with_reducible first | exact HK.out | refine keep_far ?_ GW271.out _))) hk (.inl rfl)); have n3_ := Aside0.mk (hb); have n4_ := Aside0.mk (hi); clear BK270 BK271 HK HB HI0; have BK270 := n0_; have BK271 := n1_; have HK := n2_; have HB := n3_; have HI0 := n4_; clear n0_ n1_ n2_ n3_ n4_ hb hk hi; obtain ⟨hcz26_0, hcz26_1, hcz26_2, hcz26_3, hfz26_0, hfz26_1, hfz26_2, hfz26_3⟩ := Go.Proofs.YtodbnnfiadcbaaaH.cells4 BK271.out; have hnb27 := NB270_0.out; have hnc27 := NB0_270.out; obtain ⟨hcz28_0, hcz28_1, hcz28_2, hcz28_3, hfz28_0, hfz28_1, hfz28_2, hfz28_3⟩ := Go.Proofs.YtodbnnfiadcbaaaH.cells4 BK270.out))
      refine bodyPost_ret (results_cell_row rfl _ _ gb270 28 #[.int .i64 2, .int .i64 0, .int .i64 0, .slice none 0 0] (0, 0) _ rfl (by refine blk_put (cs := #[.int .i64 2, .int .i64 0, .int .i64 0, .slice none 0 0]) ?_ 3 _ rfl; refine blk_put (cs := #[.int .i64 2, .int .i64 0, .int .i64 0, .slice none 0 0]) ?_ 2 _ rfl; refine blk_put (cs := #[.int .i64 2, .int .i64 0, .int .i64 0, .slice none 0 0]) ?_ 1 _ rfl; refine blk_put (cs := #[.int .i64 0, .int .i64 0, .int .i64 0, .slice none 0 0]) ?_ 0 _ rfl; exact BK270.out) Try.underlying28 rfl (by kernel_rfl)) rfl ?_
      exact ⟨_, by rfl, (Kd.V_nil _ _ _ _ _), by repeat ((with_reducible first | exact HI0.out | apply IsS75.far_ (hne := NB0_270.out))), by repeat ((with_reducible first | exact HB.out | refine below_set ?_ GE270.out)), by repeat ((with_reducible first | exact HK.out | refine keep_far ?_ GW270.out _))⟩
    · replace c16 := Bool.eq_false_iff.mpr c16
      subst c16
      rw [if_neg (show ¬ (false = true) by decide)] at H
      replace H := Option.bind_eq_some_iff.mp H
      obtain ⟨⟨t314, t315, t316, t317, t318, t319, t320, t321, t322, t323, t324⟩, A290, H⟩ := H
      try dsimp only at H
      have A29 := Aside0.mk A290
      clear A290
      by_cases c30 : t314 = true
      · subst c30
        rw [if_pos rfl] at H
        replace H := Option.bind_eq_some_iff.mp H
        obtain ⟨⟨t325, t326, t327, t328, t331, t332, t333, t334, t335, t336, t337, t338, t339, t340⟩, A310, H⟩ := H
        try dsimp only at H
        have A31 := Aside0.mk A310
        clear A310
        replace H := Option.bind_eq_some_iff.mp H
        obtain ⟨⟨t341, t342, t343, t344, t345, t346, t347, t348, t349, t350, t351⟩, A320, H⟩ := H
        try dsimp only at H
        have A32 := Aside0.mk A320
        clear A320
        by_cases c33 : t341 = true
        · subst c33
          rw [if_pos rfl] at H
          replace H := Option.bind_eq_some_iff.mp H
          obtain ⟨⟨t352, t353, t354, t355, t356, t357, t358, t359, t360, t361⟩, A340, H⟩ := H
          try dsimp only at H
          have A34 := Aside0.mk A340
          clear A340
          simp only [Option.some.injEq, Prod.mk.injEq] at H
          obtain ⟨rfl, rfl, rfl, rfl, rfl, rfl, rfl, rfl, rfl, rfl, rfl, rfl, rfl, rfl⟩ := H
          go_enter Try.func86, Try.ntmps86
          go_wp2_with (first | ((with_reducible refine gate_dst (N := 2) rfl ?_); refine box_event ?hg (N := 2) ?hd (cs := #[.int .i64 0, .int .i64 0, .int .i64 0, .slice none 0 0]) (t := 28) ?hr ?_; (case hd => rfl); (case hg => rfl); (case hr => (go_simp; done)); intro gb270 hg w35 hbox hb; have n0_ := Aside0.mk (IsS75.below HI0.out hb); have n1_ := Aside0.mk (KeepBut.trans HK.out (KeepBut.of_below hb g none) (.inl rfl)); have n2_ := Aside0.mk (below_step HB.out hb); have n3_ := Aside0.mk (hbox); have n4_ := Aside0.mk ((by rw [hg]; exact (keep_size HK.out) : w.heap.size ≤ gb270)); have n5_ := Aside0.mk ((Nat.le_trans HW0.out (by rw [hg]; exact (keep_size HK.out) : w.heap.size ≤ gb270) : w0.heap.size ≤ gb270)); have n6_ := Aside0.mk ((by rw [hg]; exact Nat.ne_of_lt (IsS75.lt HI0.out) : g ≠ gb270)); have n7_ := Aside0.mk ((by rw [hg]; exact Nat.ne_of_gt (IsS75.lt HI0.out) : gb270 ≠ g)); clear HI0 HK HB; have HI0 := n0_; have HK := n1_; have HB := n2_; have BK270 := n3_; have GW270 := n4_; have GE270 := n5_; have NB0_270 := n6_; have NB270_0 := n7_; clear n0_ n1_ n2_ n3_ n4_ n5_ n6_ n7_ hb hbox hg) | ((with_reducible refine gate_dst (N := 3) rfl ?_); refine box_event ?hg (N := 3) ?hd (cs := #[.int .i64 0, .int .i64 0, .int .i64 0, .slice none 0 0]) (t := 28) ?hr ?_; (case hd => rfl); (case hg => rfl); (case hr => (go_simp; done)); intro gb271 hg w36 hbox hb; have n0_ := Aside0.mk (IsS75.below HI0.out hb); have n1_ := Aside0.mk (blk_below BK270.out hb); have n2_ := Aside0.mk (KeepBut.trans HK.out (KeepBut.of_below hb g none) (.inl rfl)); have n3_ := Aside0.mk (below_step HB.out hb); have n4_ := Aside0.mk (hbox); have n5_ := Aside0.mk ((by rw [hg]; exact (keep_size HK.out) : w.heap.size ≤ gb271)); have n6_ := Aside0.mk ((Nat.le_trans HW0.out (by rw [hg]; exact (keep_size HK.out) : w.heap.size ≤ gb271) : w0.heap.size ≤ gb271)); have n7_ := Aside0.mk ((by rw [hg]; exact Nat.ne_of_lt (blk_lt BK270.out) : gb270 ≠ gb271)); have n8_ := Aside0.mk ((by rw [hg]; exact Nat.ne_of_gt (blk_lt BK270.out) : gb271 ≠ gb270)); have n9_ := Aside0.mk ((by rw [hg]; exact Nat.ne_of_lt (IsS75.lt HI0.out) : g ≠ gb271)); have n10_ := Aside0.mk ((by rw [hg]; exact Nat.ne_of_gt (IsS75.lt HI0.out) : gb271 ≠ g)); clear HI0 BK270 HK HB; have HI0 := n0_; have BK270 := n1_; have HK := n2_; have HB := n3_; have BK271 := n4_; have GW271 := n5_; have GE271 := n6_; have NB270_271 := n7_; have NB271_270 := n8_; have NB0_271 := n9_; have NB271_0 := n10_; clear n0_ n1_ n2_ n3_ n4_ n5_ n6_ n7_ n8_ n9_ n10_ hb hbox hg) | ((with_reducible refine gate_callee (f := 62) rfl ?_); refine goesL_ (some 8) rfl rfl Try.func62 (by kernel_rfl) rfl #[.pointer (some ⟨g, 0, none⟩), .int .u8 48] rfl (by (simp only [List.map_toArray, List.map_cons, List.map_nil]); rfl) ?_; (with_reducible refine (expr_parser_is.calls g s0_0 s0_1 s0_2 s0_3 s0_4 s0_5 s0_6 s0_7 s0_8 s0_9 s0_10 48 false t273 t274 t275 t276 t277 t278 t279 t280 t281 t282 w0 _ HI0.out HB.out A2.out).mono ?_); rintro e w37 ⟨rfl, hi, hb, hk⟩; refine ⟨_, rfl, ?_⟩; have n0_ := Aside0.mk (KeepBut.blk hk BK270.out NB270_0.out (by simp)); have n1_ := Aside0.mk (KeepBut.blk hk BK271.out NB271_0.out (by simp)); have n2_ := Aside0.mk (KeepBut.trans HK.out hk (.inl rfl)); have n3_ := Aside0.mk (hb); have n4_ := Aside0.mk (hi); clear BK270 BK271 HK HB HI0; have BK270 := n0_; have BK271 := n1_; have HK := n2_; have HB := n3_; have HI0 := n4_; clear n0_ n1_ n2_ n3_ n4_ hb hk hi) | ((with_reducible refine gate_callee (f := 62) rfl ?_); refine goesL_ (some 12) rfl rfl Try.func62 (by kernel_rfl) rfl #[.pointer (some ⟨g, 0, none⟩), .int .u8 49] rfl (by (simp only [List.map_toArray, List.map_cons, List.map_nil]); rfl) ?_; (with_reducible refine (expr_parser_is.calls g s0_0 t273 t274 t275 t276 t277 t278 t279 t280 t281 t282 49 false t294 t295 t296 t297 t298 t299 t300 t301 t302 t303 w0 _ HI0.out HB.out A15.out).mono ?_); rintro e w38 ⟨rfl, hi, hb, hk⟩; refine ⟨_, rfl, ?_⟩; have n0_ := Aside0.mk (KeepBut.blk hk BK270.out NB270_0.out (by simp)); have n1_ := Aside0.mk (KeepBut.blk hk BK271.out NB271_0.out (by simp)); have n2_ := Aside0.mk (KeepBut.trans HK.out hk (.inl rfl)); have n3_ := Aside0.mk (hb); have n4_ := Aside0.mk (hi); clear BK270 BK271 HK HB HI0; have BK270 := n0_; have BK271 := n1_; have HK := n2_; have HB := n3_; have HI0 := n4_; clear n0_ n1_ n2_ n3_ n4_ hb hk hi) | ((with_reducible refine gate_callee (f := 62) rfl ?_); refine goesL_ (some 16) rfl rfl Try.func62 (by kernel_rfl) rfl #[.pointer (some ⟨g, 0, none⟩), .int .u8 40] rfl (by (simp only [List.map_toArray, List.map_cons, List.map_nil]); rfl) ?_; (with_reducible refine (expr_parser_is.calls g s0_0 t294 t295 t296 t297 t298 t299 t300 t301 t302 t303 40 true t315 t316 t317 t318 t319 t320 t321 t322 t323 t324 w0 _ HI0.out HB.out A29.out).mono ?_); rintro e w39 ⟨rfl, hi, hb, hk⟩; refine ⟨_, rfl, ?_⟩; have n0_ := Aside0.mk (KeepBut.blk hk BK270.out NB270_0.out (by simp)); have n1_ := Aside0.mk (KeepBut.blk hk BK271.out NB271_0.out (by simp)); have n2_ := Aside0.mk (KeepBut.trans HK.out hk (.inl rfl)); have n3_ := Aside0.mk (hb); have n4_ := Aside0.mk (hi); clear BK270 BK271 HK HB HI0; have BK270 := n0_; have BK271 := n1_; have HK := n2_; have HB := n3_; have HI0 := n4_; clear n0_ n1_ n2_ n3_ n4_ hb hk hi) | ((with_reducible refine gate_callee (f := 92) rfl ?_); refine goesL_ (some 18) rfl rfl Try.func92 (by kernel_rfl) rfl #[.pointer (some ⟨g, 0, none⟩)] rfl (by (simp only [List.map_toArray, List.map_cons, List.map_nil]); rfl) ?_; (with_reducible refine (ih92 k (by omega) g s0_0 t315 t316 t317 t318 t319 t320 t321 t322 t323 t324 t325 t326 t327 t328 t331 t332 t333 t334 t335 t336 t337 t338 t339 t340 w0 _ HI0.out HB.out A31.out).mono ?_); rintro e w40 ⟨v329, rfl, ho0, hi, hb, hk⟩; refine ⟨_, rfl, ?_⟩; have n0_ := Aside0.mk (KeepBut.blk hk BK270.out NB270_0.out (by simp)); have n1_ := Aside0.mk (KeepBut.blk hk BK271.out NB271_0.out (by simp)); have n2_ := Aside0.mk (Kd.V_lower (Kd.V_mono (ok' := fun k_ => (w.heap.size ≤ k_) ∧ k_ ≠ gb270 ∧ k_ ≠ gb271 ∧ k_ ≠ g) ho0 (fun k_ hk_ => ⟨(Nat.le_trans (keep_size HK.out) hk_), (Kd.freshB BK270.out k_ hk_), (Kd.freshB BK271.out k_ hk_), (IsS75.fresh HI0.out k_ hk_)⟩)) (keep_size HK.out)); have n3_ := Aside0.mk (KeepBut.trans HK.out hk (.inl rfl)); have n4_ := Aside0.mk (hb); have n5_ := Aside0.mk (hi); clear BK270 BK271 HK HB HI0; have BK270 := n0_; have BK271 := n1_; have HO330 := n2_; have HK := n3_; have HB := n4_; have HI0 := n5_; clear n0_ n1_ n2_ n3_ n4_ n5_ hb hk hi ho0; have hnb41 := NB271_270.out; have hnc41 := NB270_271.out; have hnb42 := NB271_0.out; have hnc42 := NB0_271.out; obtain ⟨hcz43_0, hcz43_1, hcz43_2, hcz43_3, hfz43_0, hfz43_1, hfz43_2, hfz43_3⟩ := Go.Proofs.YtodbnnfiadcbaaaH.cells4 BK271.out; obtain ⟨Ao44, co44, eo44⟩ := Kd.V_slice HO330.out; subst eo44) | ((with_reducible refine gate_callee (f := 62) rfl ?_); refine goesL_ (some 20) rfl rfl Try.func62 (by kernel_rfl) rfl #[.pointer (some ⟨g, 0, none⟩), .int .u8 41] rfl (by (simp only [List.map_toArray, List.map_cons, List.map_nil]); rfl) ?_; (with_reducible refine (expr_parser_is.calls g s0_0 t331 t332 t333 t334 t335 t336 t337 t338 t339 t340 41 true t342 t343 t344 t345 t346 t347 t348 t349 t350 t351 w0 _ ?side1 ?side2 A32.out).mono ?_); (case side1 => repeat ((with_reducible first | exact HI0.out | apply IsS75.far_ (hne := NB0_271.out)))); (case side2 => repeat ((with_reducible first | exact HB.out | refine below_set ?_ GE271.out))); rintro e w45 ⟨rfl, hi, hb, hk⟩; refine ⟨_, rfl, ?_⟩; have n0_ := Aside0.mk (KeepBut.blk hk (g' := gb270) (o := .cells #[.int .i64 0, .int .i64 0, .int .i64 0, .slice none 0 0] 28 (0, 0)) (by refine blk_far ?_ NB270_271.out _; refine blk_far ?_ NB270_271.out _; refine blk_far ?_ NB270_271.out _; refine blk_far ?_ NB270_271.out _; exact BK270.out) NB270_0.out (by simp)); have n1_ := Aside0.mk (KeepBut.blk hk (g' := gb271) (o := .cells #[.int .i64 t325, .int .i64 t326, .int .i64 t327, .slice Ao44 t328.length co44] 28 (0, 0)) (by refine blk_put (cs := #[.int .i64 t325, .int .i64 t326, .int .i64 t327, .slice none 0 0]) ?_ 3 _ rfl; refine blk_put (cs := #[.int .i64 t325, .int .i64 t326, .int .i64 0, .slice none 0 0]) ?_ 2 _ rfl; refine blk_put (cs := #[.int .i64 t325, .int .i64 0, .int .i64 0, .slice none 0 0]) ?_ 1 _ rfl; refine blk_put (cs := #[.int .i64 0, .int .i64 0, .int .i64 0, .slice none 0 0]) ?_ 0 _ rfl; exact BK271.out) NB271_0.out (by simp)); have n2_ := Aside0.mk (Kd.V_mono (Kd.V_keep (Kd.V_mono (ok := fun k_ => (((w.heap.size ≤ k_)) ∧ (k_ ≠ gb270 ∧ (k_ ≠ gb271 ∧ k_ ≠ g)))) (by exact (Kd.V_mono (Kd.V_far (p := ⟨gb271, 3, none⟩) (Kd.V_far (p := ⟨gb271, 2, none⟩) (Kd.V_far (p := ⟨gb271, 1, none⟩) (Kd.V_far (p := ⟨gb271, 0, none⟩) (Kd.V_mono HO330.out (fun k_ hk => (⟨hk, hk.2.2.1⟩ : _ ∧ k_ ≠ gb271))) (fun _ hk => hk.2) (.int .i64 t325)) (fun _ hk => hk.2) (.int .i64 t326)) (fun _ hk => hk.2) (.int .i64 t327)) (fun _ hk => hk.2) (.slice Ao44 t328.length co44)) (fun _ h_ => h_.1))) (fun k_ hk_ => (⟨hk_, hk_.2.2.2⟩ : _ ∧ k_ ≠ g))) hk (fun _ h => h.2)) (fun _ h => h.1)); have n3_ := Aside0.mk (KeepBut.trans (by repeat ((with_reducible first | exact HK.out | refine keep_far ?_ GW271.out _))) hk (.inl rfl)); have n4_ := Aside0.mk (hb); have n5_ := Aside0.mk (hi); clear BK270 BK271 HO330 HK HB HI0; have BK270 := n0_; have BK271 := n1_; have HO330 := n2_; have HK := n3_; have HB := n4_; have HI0 := n5_; clear n0_ n1_ n2_ n3_ n4_ n5_ hb hk hi) | ((with_reducible refine gate_callee (f := 40) rfl ?_); refine goesL_ (some 60) rfl rfl Try.func40 (by kernel_rfl) rfl #[.pointer (some ⟨g, 0, none⟩)] rfl (by (simp only [List.map_toArray, List.map_cons, List.map_nil]); rfl) ?_; (with_reducible refine (expr_parser_next.calls k g s0_0 t342 t343 t344 t345 t346 t347 t348 t349 t350 t351 t352 t353 t354 t355 t356 t357 t358 t359 t360 t361 w0 _ HI0.out HB.out A34.out).mono ?_); rintro e w46 ⟨rfl, hi, hb, hk⟩; refine ⟨_, rfl, ?_⟩; have n0_ := Aside0.mk (KeepBut.blk hk BK270.out NB270_0.out (by simp)); have n1_ := Aside0.mk (KeepBut.blk hk BK271.out NB271_0.out (by simp)); have n2_ := Aside0.mk (Kd.V_mono (Kd.V_keep (Kd.V_mono (ok := fun k_ => (((w.heap.size ≤ k_)) ∧ (k_ ≠ gb270 ∧ (k_ ≠ gb271 ∧ k_ ≠ g)))) HO330.out (fun k_ hk_ => (⟨hk_, hk_.2.2.2⟩ : _ ∧ k_ ≠ g))) hk (fun _ h => h.2)) (fun _ h => h.1)); have n3_ := Aside0.mk (KeepBut.trans HK.out hk (.inl rfl)); have n4_ := Aside0.mk (hb); have n5_ := Aside0.mk (hi); clear BK270 BK271 HO330 HK HB HI0; have BK270 := n0_; have BK271 := n1_; have HO330 := n2_; have HK := n3_; have HB := n4_; have HI0 := n5_; clear n0_ n1_ n2_ n3_ n4_ n5_ hb hk hi; obtain ⟨hcz47_0, hcz47_1, hcz47_2, hcz47_3, hfz47_0, hfz47_1, hfz47_2, hfz47_3⟩ := Go.Proofs.YtodbnnfiadcbaaaH.cells4 BK271.out; have hnb48 := NB270_0.out; have hnc48 := NB0_270.out; obtain ⟨hcz49_0, hcz49_1, hcz49_2, hcz49_3, hfz49_0, hfz49_1, hfz49_2, hfz49_3⟩ := Go.Proofs.YtodbnnfiadcbaaaH.cells4 BK270.out))
          refine bodyPost_ret (results_cell_row rfl _ _ gb270 28 #[.int .i64 t325, .int .i64 t326, .int .i64 t327, .slice Ao44 t328.length co44] (0, 0) _ rfl (by refine blk_put (cs := #[.int .i64 t325, .int .i64 t326, .int .i64 t327, .slice none 0 0]) ?_ 3 _ rfl; refine blk_put (cs := #[.int .i64 t325, .int .i64 t326, .int .i64 0, .slice none 0 0]) ?_ 2 _ rfl; refine blk_put (cs := #[.int .i64 t325, .int .i64 0, .int .i64 0, .slice none 0 0]) ?_ 1 _ rfl; refine blk_put (cs := #[.int .i64 0, .int .i64 0, .int .i64 0, .slice none 0 0]) ?_ 0 _ rfl; exact BK270.out) Try.underlying28 rfl (by kernel_rfl)) rfl ?_
          exact ⟨_, by rfl, by exact Kd.V_mono (Kd.V_far (p := ⟨gb270, 3, none⟩) (Kd.V_far (p := ⟨gb270, 2, none⟩) (Kd.V_far (p := ⟨gb270, 1, none⟩) (Kd.V_far (p := ⟨gb270, 0, none⟩) (Kd.V_mono HO330.out (fun k_ hk => (⟨hk, hk.2.1⟩ : _ ∧ k_ ≠ gb270))) (fun _ hk => hk.2) (.int .i64 t325)) (fun _ hk => hk.2) (.int .i64 t326)) (fun _ hk => hk.2) (.int .i64 t327)) (fun _ hk => hk.2) (.slice Ao44 t328.length co44)) (fun _ hk => hk.1.1), by repeat ((with_reducible first | exact HI0.out | apply IsS75.far_ (hne := NB0_270.out))), by repeat ((with_reducible first | exact HB.out | refine below_set ?_ GE270.out)), by repeat ((with_reducible first | exact HK.out | refine keep_far ?_ GW270.out _))⟩
        · replace c33 := Bool.eq_false_iff.mpr c33
          subst c33
          rw [if_neg (show ¬ (false = true) by decide)] at H
          replace H := Option.bind_eq_some_iff.mp H
          obtain ⟨⟨t362, t363, t364, t365, t366, t367, t368, t369, t370, t371⟩, A500, H⟩ := H
          try dsimp only at H
          have A50 := Aside0.mk A500
          clear A500
          replace H := Option.bind_eq_some_iff.mp H
          obtain ⟨⟨t372, t373, t374, t375, t376, t377, t378, t379, t380, t381⟩, A510, H⟩ := H
          try dsimp only at H
          have A51 := Aside0.mk A510
          clear A510
          simp only [Option.some.injEq, Prod.mk.injEq] at H
          obtain ⟨rfl, rfl, rfl, rfl, rfl, rfl, rfl, rfl, rfl, rfl, rfl, rfl, rfl, rfl⟩ := H
          go_enter Try.func86, Try.ntmps86
          go_wp2_with (first | ((with_reducible refine gate_dst (N := 2) rfl ?_); refine box_event ?hg (N := 2) ?hd (cs := #[.int .i64 0, .int .i64 0, .int .i64 0, .slice none 0 0]) (t := 28) ?hr ?_; (case hd => rfl); (case hg => rfl); (case hr => (go_simp; done)); intro gb270 hg w52 hbox hb; have n0_ := Aside0.mk (IsS75.below HI0.out hb); have n1_ := Aside0.mk (KeepBut.trans HK.out (KeepBut.of_below hb g none) (.inl rfl)); have n2_ := Aside0.mk (below_step HB.out hb); have n3_ := Aside0.mk (hbox); have n4_ := Aside0.mk ((by rw [hg]; exact (keep_size HK.out) : w.heap.size ≤ gb270)); have n5_ := Aside0.mk ((Nat.le_trans HW0.out (by rw [hg]; exact (keep_size HK.out) : w.heap.size ≤ gb270) : w0.heap.size ≤ gb270)); have n6_ := Aside0.mk ((by rw [hg]; exact Nat.ne_of_lt (IsS75.lt HI0.out) : g ≠ gb270)); have n7_ := Aside0.mk ((by rw [hg]; exact Nat.ne_of_gt (IsS75.lt HI0.out) : gb270 ≠ g)); clear HI0 HK HB; have HI0 := n0_; have HK := n1_; have HB := n2_; have BK270 := n3_; have GW270 := n4_; have GE270 := n5_; have NB0_270 := n6_; have NB270_0 := n7_; clear n0_ n1_ n2_ n3_ n4_ n5_ n6_ n7_ hb hbox hg) | ((with_reducible refine gate_dst (N := 3) rfl ?_); refine box_event ?hg (N := 3) ?hd (cs := #[.int .i64 0, .int .i64 0, .int .i64 0, .slice none 0 0]) (t := 28) ?hr ?_; (case hd => rfl); (case hg => rfl); (case hr => (go_simp; done)); intro gb271 hg w53 hbox hb; have n0_ := Aside0.mk (IsS75.below HI0.out hb); have n1_ := Aside0.mk (blk_below BK270.out hb); have n2_ := Aside0.mk (KeepBut.trans HK.out (KeepBut.of_below hb g none) (.inl rfl)); have n3_ := Aside0.mk (below_step HB.out hb); have n4_ := Aside0.mk (hbox); have n5_ := Aside0.mk ((by rw [hg]; exact (keep_size HK.out) : w.heap.size ≤ gb271)); have n6_ := Aside0.mk ((Nat.le_trans HW0.out (by rw [hg]; exact (keep_size HK.out) : w.heap.size ≤ gb271) : w0.heap.size ≤ gb271)); have n7_ := Aside0.mk ((by rw [hg]; exact Nat.ne_of_lt (blk_lt BK270.out) : gb270 ≠ gb271)); have n8_ := Aside0.mk ((by rw [hg]; exact Nat.ne_of_gt (blk_lt BK270.out) : gb271 ≠ gb270)); have n9_ := Aside0.mk ((by rw [hg]; exact Nat.ne_of_lt (IsS75.lt HI0.out) : g ≠ gb271)); have n10_ := Aside0.mk ((by rw [hg]; exact Nat.ne_of_gt (IsS75.lt HI0.out) : gb271 ≠ g)); clear HI0 BK270 HK HB; have HI0 := n0_; have BK270 := n1_; have HK := n2_; have HB := n3_; have BK271 := n4_; have GW271 := n5_; have GE271 := n6_; have NB270_271 := n7_; have NB271_270 := n8_; have NB0_271 := n9_; have NB271_0 := n10_; clear n0_ n1_ n2_ n3_ n4_ n5_ n6_ n7_ n8_ n9_ n10_ hb hbox hg) | ((with_reducible refine gate_callee (f := 62) rfl ?_); refine goesL_ (some 8) rfl rfl Try.func62 (by kernel_rfl) rfl #[.pointer (some ⟨g, 0, none⟩), .int .u8 48] rfl (by (simp only [List.map_toArray, List.map_cons, List.map_nil]); rfl) ?_; (with_reducible refine (expr_parser_is.calls g s0_0 s0_1 s0_2 s0_3 s0_4 s0_5 s0_6 s0_7 s0_8 s0_9 s0_10 48 false t273 t274 t275 t276 t277 t278 t279 t280 t281 t282 w0 _ HI0.out HB.out A2.out).mono ?_); rintro e w54 ⟨rfl, hi, hb, hk⟩; refine ⟨_, rfl, ?_⟩; have n0_ := Aside0.mk (KeepBut.blk hk BK270.out NB270_0.out (by simp)); have n1_ := Aside0.mk (KeepBut.blk hk BK271.out NB271_0.out (by simp)); have n2_ := Aside0.mk (KeepBut.trans HK.out hk (.inl rfl)); have n3_ := Aside0.mk (hb); have n4_ := Aside0.mk (hi); clear BK270 BK271 HK HB HI0; have BK270 := n0_; have BK271 := n1_; have HK := n2_; have HB := n3_; have HI0 := n4_; clear n0_ n1_ n2_ n3_ n4_ hb hk hi) | ((with_reducible refine gate_callee (f := 62) rfl ?_); refine goesL_ (some 12) rfl rfl Try.func62 (by kernel_rfl) rfl #[.pointer (some ⟨g, 0, none⟩), .int .u8 49] rfl (by (simp only [List.map_toArray, List.map_cons, List.map_nil]); rfl) ?_; (with_reducible refine (expr_parser_is.calls g s0_0 t273 t274 t275 t276 t277 t278 t279 t280 t281 t282 49 false t294 t295 t296 t297 t298 t299 t300 t301 t302 t303 w0 _ HI0.out HB.out A15.out).mono ?_); rintro e w55 ⟨rfl, hi, hb, hk⟩; refine ⟨_, rfl, ?_⟩; have n0_ := Aside0.mk (KeepBut.blk hk BK270.out NB270_0.out (by simp)); have n1_ := Aside0.mk (KeepBut.blk hk BK271.out NB271_0.out (by simp)); have n2_ := Aside0.mk (KeepBut.trans HK.out hk (.inl rfl)); have n3_ := Aside0.mk (hb); have n4_ := Aside0.mk (hi); clear BK270 BK271 HK HB HI0; have BK270 := n0_; have BK271 := n1_; have HK := n2_; have HB := n3_; have HI0 := n4_; clear n0_ n1_ n2_ n3_ n4_ hb hk hi) | ((with_reducible refine gate_callee (f := 62) rfl ?_); refine goesL_ (some 16) rfl rfl Try.func62 (by kernel_rfl) rfl #[.pointer (some ⟨g, 0, none⟩), .int .u8 40] rfl (by (simp only [List.map_toArray, List.map_cons, List.map_nil]); rfl) ?_; (with_reducible refine (expr_parser_is.calls g s0_0 t294 t295 t296 t297 t298 t299 t300 t301 t302 t303 40 true t315 t316 t317 t318 t319 t320 t321 t322 t323 t324 w0 _ HI0.out HB.out A29.out).mono ?_); rintro e w56 ⟨rfl, hi, hb, hk⟩; refine ⟨_, rfl, ?_⟩; have n0_ := Aside0.mk (KeepBut.blk hk BK270.out NB270_0.out (by simp)); have n1_ := Aside0.mk (KeepBut.blk hk BK271.out NB271_0.out (by simp)); have n2_ := Aside0.mk (KeepBut.trans HK.out hk (.inl rfl)); have n3_ := Aside0.mk (hb); have n4_ := Aside0.mk (hi); clear BK270 BK271 HK HB HI0; have BK270 := n0_; have BK271 := n1_; have HK := n2_; have HB := n3_; have HI0 := n4_; clear n0_ n1_ n2_ n3_ n4_ hb hk hi) | ((with_reducible refine gate_callee (f := 92) rfl ?_); refine goesL_ (some 18) rfl rfl Try.func92 (by kernel_rfl) rfl #[.pointer (some ⟨g, 0, none⟩)] rfl (by (simp only [List.map_toArray, List.map_cons, List.map_nil]); rfl) ?_; (with_reducible refine (ih92 k (by omega) g s0_0 t315 t316 t317 t318 t319 t320 t321 t322 t323 t324 t325 t326 t327 t328 t331 t332 t333 t334 t335 t336 t337 t338 t339 t340 w0 _ HI0.out HB.out A31.out).mono ?_); rintro e w57 ⟨v329, rfl, ho0, hi, hb, hk⟩; refine ⟨_, rfl, ?_⟩; have n0_ := Aside0.mk (KeepBut.blk hk BK270.out NB270_0.out (by simp)); have n1_ := Aside0.mk (KeepBut.blk hk BK271.out NB271_0.out (by simp)); have n2_ := Aside0.mk (Kd.V_lower (Kd.V_mono (ok' := fun k_ => (w.heap.size ≤ k_) ∧ k_ ≠ gb270 ∧ k_ ≠ gb271 ∧ k_ ≠ g) ho0 (fun k_ hk_ => ⟨(Nat.le_trans (keep_size HK.out) hk_), (Kd.freshB BK270.out k_ hk_), (Kd.freshB BK271.out k_ hk_), (IsS75.fresh HI0.out k_ hk_)⟩)) (keep_size HK.out)); have n3_ := Aside0.mk (KeepBut.trans HK.out hk (.inl rfl)); have n4_ := Aside0.mk (hb); have n5_ := Aside0.mk (hi); clear BK270 BK271 HK HB HI0; have BK270 := n0_; have BK271 := n1_; have HO330 := n2_; have HK := n3_; have HB := n4_; have HI0 := n5_; clear n0_ n1_ n2_ n3_ n4_ n5_ hb hk hi ho0; have hnb58 := NB271_270.out; have hnc58 := NB270_271.out; have hnb59 := NB271_0.out; have hnc59 := NB0_271.out; obtain ⟨hcz60_0, hcz60_1, hcz60_2, hcz60_3, hfz60_0, hfz60_1, hfz60_2, hfz60_3⟩ := Go.Proofs.YtodbnnfiadcbaaaH.cells4 BK271.out; obtain ⟨Ao61, co61, eo61⟩ := Kd.V_slice HO330.out; subst eo61) | ((with_reducible refine gate_callee (f := 62) rfl ?_); refine goesL_ (some 20) rfl rfl Try.func62 (by kernel_rfl) rfl #[.pointer (some ⟨g, 0, none⟩), .int .u8 41] rfl (by (simp only [List.map_toArray, List.map_cons, List.map_nil]); rfl) ?_; (with_reducible refine (expr_parser_is.calls g s0_0 t331 t332 t333 t334 t335 t336 t337 t338 t339 t340 41 false t342 t343 t344 t345 t346 t347 t348 t349 t350 t351 w0 _ ?side1 ?side2 A32.out).mono ?_); (case side1 => repeat ((with_reducible first | exact HI0.out | apply IsS75.far_ (hne := NB0_271.out)))); (case side2 => repeat ((with_reducible first | exact HB.out | refine below_set ?_ GE271.out))); rintro e w62 ⟨rfl, hi, hb, hk⟩; refine ⟨_, rfl, ?_⟩; have n0_ := Aside0.mk (KeepBut.blk hk (g' := gb270) (o := .cells #[.int .i64 0, .int .i64 0, .int .i64 0, .slice none 0 0] 28 (0, 0)) (by refine blk_far ?_ NB270_271.out _; refine blk_far ?_ NB270_271.out _; refine blk_far ?_ NB270_271.out _; refine blk_far ?_ NB270_271.out _; exact BK270.out) NB270_0.out (by simp)); have n1_ := Aside0.mk (KeepBut.blk hk (g' := gb271) (o := .cells #[.int .i64 t325, .int .i64 t326, .int .i64 t327, .slice Ao61 t328.length co61] 28 (0, 0)) (by refine blk_put (cs := #[.int .i64 t325, .int .i64 t326, .int .i64 t327, .slice none 0 0]) ?_ 3 _ rfl; refine blk_put (cs := #[.int .i64 t325, .int .i64 t326, .int .i64 0, .slice none 0 0]) ?_ 2 _ rfl; refine blk_put (cs := #[.int .i64 t325, .int .i64 0, .int .i64 0, .slice none 0 0]) ?_ 1 _ rfl; refine blk_put (cs := #[.int .i64 0, .int .i64 0, .int .i64 0, .slice none 0 0]) ?_ 0 _ rfl; exact BK271.out) NB271_0.out (by simp)); have n2_ := Aside0.mk (Kd.V_mono (Kd.V_keep (Kd.V_mono (ok := fun k_ => (((w.heap.size ≤ k_)) ∧ (k_ ≠ gb270 ∧ (k_ ≠ gb271 ∧ k_ ≠ g)))) (by exact (Kd.V_mono (Kd.V_far (p := ⟨gb271, 3, none⟩) (Kd.V_far (p := ⟨gb271, 2, none⟩) (Kd.V_far (p := ⟨gb271, 1, none⟩) (Kd.V_far (p := ⟨gb271, 0, none⟩) (Kd.V_mono HO330.out (fun k_ hk => (⟨hk, hk.2.2.1⟩ : _ ∧ k_ ≠ gb271))) (fun _ hk => hk.2) (.int .i64 t325)) (fun _ hk => hk.2) (.int .i64 t326)) (fun _ hk => hk.2) (.int .i64 t327)) (fun _ hk => hk.2) (.slice Ao61 t328.length co61)) (fun _ h_ => h_.1))) (fun k_ hk_ => (⟨hk_, hk_.2.2.2⟩ : _ ∧ k_ ≠ g))) hk (fun _ h => h.2)) (fun _ h => h.1)); have n3_ := Aside0.mk (KeepBut.trans (by repeat ((with_reducible first | exact HK.out | refine keep_far ?_ GW271.out _))) hk (.inl rfl)); have n4_ := Aside0.mk (hb); have n5_ := Aside0.mk (hi); clear BK270 BK271 HO330 HK HB HI0; have BK270 := n0_; have BK271 := n1_; have HO330 := n2_; have HK := n3_; have HB := n4_; have HI0 := n5_; clear n0_ n1_ n2_ n3_ n4_ n5_ hb hk hi) | ((with_reducible refine gate_callee (f := 42) rfl ?_); refine goesL_ (some 23) rfl rfl Try.func42 (by kernel_rfl) rfl #[.pointer (some ⟨g, 0, none⟩), .int .i64 1] rfl (by (simp only [List.map_toArray, List.map_cons, List.map_nil]); rfl) ?_; (with_reducible refine (expr_parser_wrong.calls g s0_0 t342 t343 t344 t345 t346 t347 t348 t349 t350 t351 1 t362 t363 t364 t365 t366 t367 t368 t369 t370 t371 w0 _ HI0.out HB.out A50.out).mono ?_); rintro e w63 ⟨rfl, hi, hb, hk⟩; refine ⟨_, rfl, ?_⟩; have n0_ := Aside0.mk (KeepBut.blk hk BK270.out NB270_0.out (by simp)); have n1_ := Aside0.mk (KeepBut.blk hk BK271.out NB271_0.out (by simp)); have n2_ := Aside0.mk (Kd.V_mono (Kd.V_keep (Kd.V_mono (ok := fun k_ => (((w.heap.size ≤ k_)) ∧ (k_ ≠ gb270 ∧ (k_ ≠ gb271 ∧ k_ ≠ g)))) HO330.out (fun k_ hk_ => (⟨hk_, hk_.2.2.2⟩ : _ ∧ k_ ≠ g))) hk (fun _ h => h.2)) (fun _ h => h.1)); have n3_ := Aside0.mk (KeepBut.trans HK.out hk (.inl rfl)); have n4_ := Aside0.mk (hb); have n5_ := Aside0.mk (hi); clear BK270 BK271 HO330 HK HB HI0; have BK270 := n0_; have BK271 := n1_; have HO330 := n2_; have HK := n3_; have HB := n4_; have HI0 := n5_; clear n0_ n1_ n2_ n3_ n4_ n5_ hb hk hi) | ((with_reducible refine gate_callee (f := 40) rfl ?_); refine goesL_ (some 60) rfl rfl Try.func40 (by kernel_rfl) rfl #[.pointer (some ⟨g, 0, none⟩)] rfl (by (simp only [List.map_toArray, List.map_cons, List.map_nil]); rfl) ?_; (with_reducible refine (expr_parser_next.calls k g s0_0 t362 t363 t364 t365 t366 t367 t368 t369 t370 t371 t372 t373 t374 t375 t376 t377 t378 t379 t380 t381 w0 _ HI0.out HB.out A51.out).mono ?_); rintro e w64 ⟨rfl, hi, hb, hk⟩; refine ⟨_, rfl, ?_⟩; have n0_ := Aside0.mk (KeepBut.blk hk BK270.out NB270_0.out (by simp)); have n1_ := Aside0.mk (KeepBut.blk hk BK271.out NB271_0.out (by simp)); have n2_ := Aside0.mk (Kd.V_mono (Kd.V_keep (Kd.V_mono (ok := fun k_ => (((w.heap.size ≤ k_)) ∧ (k_ ≠ gb270 ∧ (k_ ≠ gb271 ∧ k_ ≠ g)))) HO330.out (fun k_ hk_ => (⟨hk_, hk_.2.2.2⟩ : _ ∧ k_ ≠ g))) hk (fun _ h => h.2)) (fun _ h => h.1)); have n3_ := Aside0.mk (KeepBut.trans HK.out hk (.inl rfl)); have n4_ := Aside0.mk (hb); have n5_ := Aside0.mk (hi); clear BK270 BK271 HO330 HK HB HI0; have BK270 := n0_; have BK271 := n1_; have HO330 := n2_; have HK := n3_; have HB := n4_; have HI0 := n5_; clear n0_ n1_ n2_ n3_ n4_ n5_ hb hk hi; obtain ⟨hcz65_0, hcz65_1, hcz65_2, hcz65_3, hfz65_0, hfz65_1, hfz65_2, hfz65_3⟩ := Go.Proofs.YtodbnnfiadcbaaaH.cells4 BK271.out; have hnb66 := NB270_0.out; have hnc66 := NB0_270.out; obtain ⟨hcz67_0, hcz67_1, hcz67_2, hcz67_3, hfz67_0, hfz67_1, hfz67_2, hfz67_3⟩ := Go.Proofs.YtodbnnfiadcbaaaH.cells4 BK270.out))
          refine bodyPost_ret (results_cell_row rfl _ _ gb270 28 #[.int .i64 t325, .int .i64 t326, .int .i64 t327, .slice Ao61 t328.length co61] (0, 0) _ rfl (by refine blk_put (cs := #[.int .i64 t325, .int .i64 t326, .int .i64 t327, .slice none 0 0]) ?_ 3 _ rfl; refine blk_put (cs := #[.int .i64 t325, .int .i64 t326, .int .i64 0, .slice none 0 0]) ?_ 2 _ rfl; refine blk_put (cs := #[.int .i64 t325, .int .i64 0, .int .i64 0, .slice none 0 0]) ?_ 1 _ rfl; refine blk_put (cs := #[.int .i64 0, .int .i64 0, .int .i64 0, .slice none 0 0]) ?_ 0 _ rfl; exact BK270.out) Try.underlying28 rfl (by kernel_rfl)) rfl ?_
          exact ⟨_, by rfl, by exact Kd.V_mono (Kd.V_far (p := ⟨gb270, 3, none⟩) (Kd.V_far (p := ⟨gb270, 2, none⟩) (Kd.V_far (p := ⟨gb270, 1, none⟩) (Kd.V_far (p := ⟨gb270, 0, none⟩) (Kd.V_mono HO330.out (fun k_ hk => (⟨hk, hk.2.1⟩ : _ ∧ k_ ≠ gb270))) (fun _ hk => hk.2) (.int .i64 t325)) (fun _ hk => hk.2) (.int .i64 t326)) (fun _ hk => hk.2) (.int .i64 t327)) (fun _ hk => hk.2) (.slice Ao61 t328.length co61)) (fun _ hk => hk.1.1), by repeat ((with_reducible first | exact HI0.out | apply IsS75.far_ (hne := NB0_270.out))), by repeat ((with_reducible first | exact HB.out | refine below_set ?_ GE270.out)), by repeat ((with_reducible first | exact HK.out | refine keep_far ?_ GW270.out _))⟩
      · replace c30 := Bool.eq_false_iff.mpr c30
        subst c30
        rw [if_neg (show ¬ (false = true) by decide)] at H
        by_cases c68 : t318 = 4
        · rw [if_pos c68] at H
          have c68b0 : (t318 == 4) = true := beq_iff_eq.mpr c68
          have c68b1 : (t318 != 4) = false := bne_eq_false_iff_eq.mpr c68
          clear c68
          replace H := Option.bind_eq_some_iff.mp H
          obtain ⟨⟨t382, t383, t384, t385, t386, t387, t388, t389, t390, t391, t392⟩, A690, H⟩ := H
          try dsimp only at H
          have A69 := Aside0.mk A690
          clear A690
          replace H := Option.bind_eq_some_iff.mp H
          obtain ⟨⟨t393, t394, t395, t396, t397, t398, t399, t400, t401, t402⟩, A700, H⟩ := H
          try dsimp only at H
          have A70 := Aside0.mk A700
          clear A700
          simp only [Option.some.injEq, Prod.mk.injEq] at H
          obtain ⟨rfl, rfl, rfl, rfl, rfl, rfl, rfl, rfl, rfl, rfl, rfl, rfl, rfl, rfl⟩ := H
          go_enter Try.func86, Try.ntmps86
          go_wp2_with (first | ((with_reducible refine gate_dst (N := 2) rfl ?_); refine box_event ?hg (N := 2) ?hd (cs := #[.int .i64 0, .int .i64 0, .int .i64 0, .slice none 0 0]) (t := 28) ?hr ?_; (case hd => rfl); (case hg => rfl); (case hr => (go_simp; done)); intro gb270 hg w71 hbox hb; have n0_ := Aside0.mk (IsS75.below HI0.out hb); have n1_ := Aside0.mk (KeepBut.trans HK.out (KeepBut.of_below hb g none) (.inl rfl)); have n2_ := Aside0.mk (below_step HB.out hb); have n3_ := Aside0.mk (hbox); have n4_ := Aside0.mk ((by rw [hg]; exact (keep_size HK.out) : w.heap.size ≤ gb270)); have n5_ := Aside0.mk ((Nat.le_trans HW0.out (by rw [hg]; exact (keep_size HK.out) : w.heap.size ≤ gb270) : w0.heap.size ≤ gb270)); have n6_ := Aside0.mk ((by rw [hg]; exact Nat.ne_of_lt (IsS75.lt HI0.out) : g ≠ gb270)); have n7_ := Aside0.mk ((by rw [hg]; exact Nat.ne_of_gt (IsS75.lt HI0.out) : gb270 ≠ g)); clear HI0 HK HB; have HI0 := n0_; have HK := n1_; have HB := n2_; have BK270 := n3_; have GW270 := n4_; have GE270 := n5_; have NB0_270 := n6_; have NB270_0 := n7_; clear n0_ n1_ n2_ n3_ n4_ n5_ n6_ n7_ hb hbox hg) | ((with_reducible refine gate_dst (N := 3) rfl ?_); refine box_event ?hg (N := 3) ?hd (cs := #[.int .i64 0, .int .i64 0, .int .i64 0, .slice none 0 0]) (t := 28) ?hr ?_; (case hd => rfl); (case hg => rfl); (case hr => (go_simp; done)); intro gb271 hg w72 hbox hb; have n0_ := Aside0.mk (IsS75.below HI0.out hb); have n1_ := Aside0.mk (blk_below BK270.out hb); have n2_ := Aside0.mk (KeepBut.trans HK.out (KeepBut.of_below hb g none) (.inl rfl)); have n3_ := Aside0.mk (below_step HB.out hb); have n4_ := Aside0.mk (hbox); have n5_ := Aside0.mk ((by rw [hg]; exact (keep_size HK.out) : w.heap.size ≤ gb271)); have n6_ := Aside0.mk ((Nat.le_trans HW0.out (by rw [hg]; exact (keep_size HK.out) : w.heap.size ≤ gb271) : w0.heap.size ≤ gb271)); have n7_ := Aside0.mk ((by rw [hg]; exact Nat.ne_of_lt (blk_lt BK270.out) : gb270 ≠ gb271)); have n8_ := Aside0.mk ((by rw [hg]; exact Nat.ne_of_gt (blk_lt BK270.out) : gb271 ≠ gb270)); have n9_ := Aside0.mk ((by rw [hg]; exact Nat.ne_of_lt (IsS75.lt HI0.out) : g ≠ gb271)); have n10_ := Aside0.mk ((by rw [hg]; exact Nat.ne_of_gt (IsS75.lt HI0.out) : gb271 ≠ g)); clear HI0 BK270 HK HB; have HI0 := n0_; have BK270 := n1_; have HK := n2_; have HB := n3_; have BK271 := n4_; have GW271 := n5_; have GE271 := n6_; have NB270_271 := n7_; have NB271_270 := n8_; have NB0_271 := n9_; have NB271_0 := n10_; clear n0_ n1_ n2_ n3_ n4_ n5_ n6_ n7_ n8_ n9_ n10_ hb hbox hg) | ((with_reducible refine gate_callee (f := 62) rfl ?_); refine goesL_ (some 8) rfl rfl Try.func62 (by kernel_rfl) rfl #[.pointer (some ⟨g, 0, none⟩), .int .u8 48] rfl (by (simp only [List.map_toArray, List.map_cons, List.map_nil]); rfl) ?_; (with_reducible refine (expr_parser_is.calls g s0_0 s0_1 s0_2 s0_3 s0_4 s0_5 s0_6 s0_7 s0_8 s0_9 s0_10 48 false t273 t274 t275 t276 t277 t278 t279 t280 t281 t282 w0 _ HI0.out HB.out A2.out).mono ?_); rintro e w73 ⟨rfl, hi, hb, hk⟩; refine ⟨_, rfl, ?_⟩; have n0_ := Aside0.mk (KeepBut.blk hk BK270.out NB270_0.out (by simp)); have n1_ := Aside0.mk (KeepBut.blk hk BK271.out NB271_0.out (by simp)); have n2_ := Aside0.mk (KeepBut.trans HK.out hk (.inl rfl)); have n3_ := Aside0.mk (hb); have n4_ := Aside0.mk (hi); clear BK270 BK271 HK HB HI0; have BK270 := n0_; have BK271 := n1_; have HK := n2_; have HB := n3_; have HI0 := n4_; clear n0_ n1_ n2_ n3_ n4_ hb hk hi) | ((with_reducible refine gate_callee (f := 62) rfl ?_); refine goesL_ (some 12) rfl rfl Try.func62 (by kernel_rfl) rfl #[.pointer (some ⟨g, 0, none⟩), .int .u8 49] rfl (by (simp only [List.map_toArray, List.map_cons, List.map_nil]); rfl) ?_; (with_reducible refine (expr_parser_is.calls g s0_0 t273 t274 t275 t276 t277 t278 t279 t280 t281 t282 49 false t294 t295 t296 t297 t298 t299 t300 t301 t302 t303 w0 _ HI0.out HB.out A15.out).mono ?_); rintro e w74 ⟨rfl, hi, hb, hk⟩; refine ⟨_, rfl, ?_⟩; have n0_ := Aside0.mk (KeepBut.blk hk BK270.out NB270_0.out (by simp)); have n1_ := Aside0.mk (KeepBut.blk hk BK271.out NB271_0.out (by simp)); have n2_ := Aside0.mk (KeepBut.trans HK.out hk (.inl rfl)); have n3_ := Aside0.mk (hb); have n4_ := Aside0.mk (hi); clear BK270 BK271 HK HB HI0; have BK270 := n0_; have BK271 := n1_; have HK := n2_; have HB := n3_; have HI0 := n4_; clear n0_ n1_ n2_ n3_ n4_ hb hk hi) | ((with_reducible refine gate_callee (f := 62) rfl ?_); refine goesL_ (some 16) rfl rfl Try.func62 (by kernel_rfl) rfl #[.pointer (some ⟨g, 0, none⟩), .int .u8 40] rfl (by (simp only [List.map_toArray, List.map_cons, List.map_nil]); rfl) ?_; (with_reducible refine (expr_parser_is.calls g s0_0 t294 t295 t296 t297 t298 t299 t300 t301 t302 t303 40 false t315 t316 t317 t318 t319 t320 t321 t322 t323 t324 w0 _ HI0.out HB.out A29.out).mono ?_); rintro e w75 ⟨rfl, hi, hb, hk⟩; refine ⟨_, rfl, ?_⟩; have n0_ := Aside0.mk (KeepBut.blk hk BK270.out NB270_0.out (by simp)); have n1_ := Aside0.mk (KeepBut.blk hk BK271.out NB271_0.out (by simp)); have n2_ := Aside0.mk (KeepBut.trans HK.out hk (.inl rfl)); have n3_ := Aside0.mk (hb); have n4_ := Aside0.mk (hi); clear BK270 BK271 HK HB HI0; have BK270 := n0_; have BK271 := n1_; have HK := n2_; have HB := n3_; have HI0 := n4_; clear n0_ n1_ n2_ n3_ n4_ hb hk hi; obtain ⟨ASz76_0, cSz76_0, HGz76, hgz76, HSz76_0, HDz76_0⟩ := HI0.out; obtain ⟨hcz76_0, hcz76_1, hcz76_2, hcz76_3, hcz76_4, hcz76_5, hcz76_6, hcz76_7, hcz76_8, hcz76_9, hcz76_10, -, hfz76_1, hfz76_2, hfz76_3, hfz76_4, hfz76_5, hfz76_6, hfz76_7, hfz76_8, hfz76_9, hfz76_10⟩ := Go.Proofs.YtodbnnfiadcbaaaH.cells11 HGz76; clear HGz76 hgz76) | ((with_reducible refine gate_callee (f := 93) rfl ?_); refine goesL_ (some 32) rfl rfl Try.func93 (by kernel_rfl) rfl #[.pointer (some ⟨g, 0, none⟩)] rfl (by (simp only [List.map_toArray, List.map_cons, List.map_nil]); rfl) ?_; (with_reducible refine (expr_parser_sym.calls k g s0_0 t315 t316 t317 t318 t319 t320 t321 t322 t323 t324 t382 t383 t384 t385 t386 t387 t388 t389 t390 t391 t392 w0 _ HI0.out HB.out A69.out).mono ?_); rintro e w77 ⟨rfl, hi, hb, hk⟩; refine ⟨_, rfl, ?_⟩; have n0_ := Aside0.mk (KeepBut.blk hk BK270.out NB270_0.out (by simp)); have n1_ := Aside0.mk (KeepBut.blk hk BK271.out NB271_0.out (by simp)); have n2_ := Aside0.mk (KeepBut.trans HK.out hk (.inl rfl)); have n3_ := Aside0.mk (hb); have n4_ := Aside0.mk (hi); clear BK270 BK271 HK HB HI0; have BK270 := n0_; have BK271 := n1_; have HK := n2_; have HB := n3_; have HI0 := n4_; clear n0_ n1_ n2_ n3_ n4_ hb hk hi; have hnb78 := NB271_270.out; have hnc78 := NB270_271.out; have hnb79 := NB271_0.out; have hnc79 := NB0_271.out; obtain ⟨hcz80_0, hcz80_1, hcz80_2, hcz80_3, hfz80_0, hfz80_1, hfz80_2, hfz80_3⟩ := Go.Proofs.YtodbnnfiadcbaaaH.cells4 BK271.out) | ((with_reducible refine gate_callee (f := 40) rfl ?_); refine goesL_ (some 60) rfl rfl Try.func40 (by kernel_rfl) rfl #[.pointer (some ⟨g, 0, none⟩)] rfl (by (simp only [List.map_toArray, List.map_cons, List.map_nil]); rfl) ?_; (with_reducible refine (expr_parser_next.calls k g s0_0 t383 t384 t385 t386 t387 t388 t389 t390 t391 t392 t393 t394 t395 t396 t397 t398 t399 t400 t401 t402 w0 _ ?side1 ?side2 A70.out).mono ?_); (case side1 => repeat ((with_reducible first | exact HI0.out | apply IsS75.far_ (hne := NB0_271.out)))); (case side2 => repeat ((with_reducible first | exact HB.out | refine below_set ?_ GE271.out))); rintro e w81 ⟨rfl, hi, hb, hk⟩; refine ⟨_, rfl, ?_⟩; have n0_ := Aside0.mk (KeepBut.blk hk (g' := gb270) (o := .cells #[.int .i64 0, .int .i64 0, .int .i64 0, .slice none 0 0] 28 (0, 0)) (by refine blk_far ?_ NB270_271.out _; refine blk_far ?_ NB270_271.out _; refine blk_far ?_ NB270_271.out _; refine blk_far ?_ NB270_271.out _; exact BK270.out) NB270_0.out (by simp)); have n1_ := Aside0.mk (KeepBut.blk hk (g' := gb271) (o := .cells #[.int .i64 3, .int .i64 t382, .int .i64 0, .slice none 0 0] 28 (0, 0)) (by refine blk_put (cs := #[.int .i64 3, .int .i64 t382, .int .i64 0, .slice none 0 0]) ?_ 3 _ rfl; refine blk_put (cs := #[.int .i64 3, .int .i64 t382, .int .i64 0, .slice none 0 0]) ?_ 2 _ rfl; refine blk_put (cs := #[.int .i64 3, .int .i64 0, .int .i64 0, .slice none 0 0]) ?_ 1 _ rfl; refine blk_put (cs := #[.int .i64 0, .int .i64 0, .int .i64 0, .slice none 0 0]) ?_ 0 _ rfl; exact BK271.out) NB271_0.out (by simp)); have n2_ := Aside0.mk (KeepBut.trans (by repeat ((with_reducible first | exact HK.out | refine keep_far ?_ GW271.out _))) hk (.inl rfl)); have n3_ := Aside0.mk (hb); have n4_ := Aside0.mk (hi); clear BK270 BK271 HK HB HI0; have BK270 := n0_; have BK271 := n1_; have HK := n2_; have HB := n3_; have HI0 := n4_; clear n0_ n1_ n2_ n3_ n4_ hb hk hi; obtain ⟨hcz82_0, hcz82_1, hcz82_2, hcz82_3, hfz82_0, hfz82_1, hfz82_2, hfz82_3⟩ := Go.Proofs.YtodbnnfiadcbaaaH.cells4 BK271.out; have hnb83 := NB270_0.out; have hnc83 := NB0_270.out; obtain ⟨hcz84_0, hcz84_1, hcz84_2, hcz84_3, hfz84_0, hfz84_1, hfz84_2, hfz84_3⟩ := Go.Proofs.YtodbnnfiadcbaaaH.cells4 BK270.out))
          refine bodyPost_ret (results_cell_row rfl _ _ gb270 28 #[.int .i64 3, .int .i64 t382, .int .i64 0, .slice none 0 0] (0, 0) _ rfl (by refine blk_put (cs := #[.int .i64 3, .int .i64 t382, .int .i64 0, .slice none 0 0]) ?_ 3 _ rfl; refine blk_put (cs := #[.int .i64 3, .int .i64 t382, .int .i64 0, .slice none 0 0]) ?_ 2 _ rfl; refine blk_put (cs := #[.int .i64 3, .int .i64 0, .int .i64 0, .slice none 0 0]) ?_ 1 _ rfl; refine blk_put (cs := #[.int .i64 0, .int .i64 0, .int .i64 0, .slice none 0 0]) ?_ 0 _ rfl; exact BK270.out) Try.underlying28 rfl (by kernel_rfl)) rfl ?_
          exact ⟨_, by rfl, (Kd.V_nil _ _ _ _ _), by repeat ((with_reducible first | exact HI0.out | apply IsS75.far_ (hne := NB0_270.out))), by repeat ((with_reducible first | exact HB.out | refine below_set ?_ GE270.out)), by repeat ((with_reducible first | exact HK.out | refine keep_far ?_ GW270.out _))⟩
        · rw [if_neg c68] at H
          have c68b0 : (t318 == 4) = false := beq_eq_false_iff_ne.mpr c68
          have c68b1 : (t318 != 4) = true := bne_iff_ne.mpr c68
          by_cases c85 : t318 = 5
          · rw [if_pos c85] at H
            have c85b0 : (t318 == 5) = true := beq_iff_eq.mpr c85
            have c85b1 : (t318 != 5) = false := bne_eq_false_iff_eq.mpr c85
            clear c85
            replace H := Option.bind_eq_some_iff.mp H
            obtain ⟨⟨t403, t404, t405, t406, t407, t408, t409, t410, t411, t412, t413⟩, A860, H⟩ := H
            try dsimp only at H
            have A86 := Aside0.mk A860
            clear A860
            replace H := Option.bind_eq_some_iff.mp H
            obtain ⟨⟨t414, t415, t416, t417, t420, t421, t422, t423, t424, t425, t426, t427, t428, t429⟩, A870, H⟩ := H
            try dsimp only at H
            have A87 := Aside0.mk A870
            clear A870
            obtain ⟨y430, hy430⟩ : ∃ y_ : List (S28), y_ = (([(⟨t414, t415, t416, t417⟩ : S28)] : List (S28))) := ⟨_, rfl⟩
            replace H : (if t423 = 6 then ((expr_parser_sym.f k s0_0 t420 t421 t422 t423 t424 t425 t426 t427 t428 t429).bind fun bt433 => ((expr_parser_next.f k s0_0 bt433.2.1 bt433.2.2.1 bt433.2.2.2.1 bt433.2.2.2.2.1 bt433.2.2.2.2.2.1 bt433.2.2.2.2.2.2.1 bt433.2.2.2.2.2.2.2.1 bt433.2.2.2.2.2.2.2.2.1 bt433.2.2.2.2.2.2.2.2.2.1 bt433.2.2.2.2.2.2.2.2.2.2).bind fun bt444 => (some (4, t403, bt433.1, y430, bt444.1, bt444.2.1, bt444.2.2.1, bt444.2.2.2.1, bt444.2.2.2.2.1, bt444.2.2.2.2.2.1, bt444.2.2.2.2.2.2.1, bt444.2.2.2.2.2.2.2.1, bt444.2.2.2.2.2.2.2.2.1, bt444.2.2.2.2.2.2.2.2.2)))) else ((expr_parser_wrong.f s0_0 t420 t421 t422 t423 t424 t425 t426 t427 t428 t429 1).bind fun bt454 => ((expr_parser_next.f k s0_0 bt454.1 bt454.2.1 bt454.2.2.1 bt454.2.2.2.1 bt454.2.2.2.2.1 bt454.2.2.2.2.2.1 bt454.2.2.2.2.2.2.1 bt454.2.2.2.2.2.2.2.1 bt454.2.2.2.2.2.2.2.2.1 bt454.2.2.2.2.2.2.2.2.2).bind fun bt464 => (some (4, t403, 0, y430, bt464.1, bt464.2.1, bt464.2.2.1, bt464.2.2.2.1, bt464.2.2.2.2.1, bt464.2.2.2.2.2.1, bt464.2.2.2.2.2.2.1, bt464.2.2.2.2.2.2.2.1, bt464.2.2.2.2.2.2.2.2.1, bt464.2.2.2.2.2.2.2.2.2))))) = some (r1, r2, r3, r4, r5, r6, r7, r8, r9, r10, r11, r12, r13, r14) := by (have H2_ := (Option.bind_some _ _).symm.trans H; rw [hy430]; with_reducible exact H2_)
            have Ny430 := Aside0.mk hy430
            clear hy430
            by_cases c88 : t423 = 6
            · rw [if_pos c88] at H
              have c88b0 : (t423 == 6) = true := beq_iff_eq.mpr c88
              have c88b1 : (t423 != 6) = false := bne_eq_false_iff_eq.mpr c88
              clear c88
              replace H := Option.bind_eq_some_iff.mp H
              obtain ⟨⟨t433, t434, t435, t436, t437, t438, t439, t440, t441, t442, t443⟩, A890, H⟩ := H
              try dsimp only at H
              have A89 := Aside0.mk A890
              clear A890
              replace H := Option.bind_eq_some_iff.mp H
              obtain ⟨⟨t444, t445, t446, t447, t448, t449, t450, t451, t452, t453⟩, A900, H⟩ := H
              try dsimp only at H
              have A90 := Aside0.mk A900
              clear A900
              simp only [Option.some.injEq, Prod.mk.injEq] at H
              obtain ⟨rfl, rfl, rfl, rfl, rfl, rfl, rfl, rfl, rfl, rfl, rfl, rfl, rfl, rfl⟩ := H
              go_enter Try.func86, Try.ntmps86
              go_wp2_with (first | ((with_reducible refine gate_dst (N := 2) rfl ?_); refine box_event ?hg (N := 2) ?hd (cs := #[.int .i64 0, .int .i64 0, .int .i64 0, .slice none 0 0]) (t := 28) ?hr ?_; (case hd => rfl); (case hg => rfl); (case hr => (go_simp; done)); intro gb270 hg w91 hbox hb; have n0_ := Aside0.mk (IsS75.below HI0.out hb); have n1_ := Aside0.mk (KeepBut.trans HK.out (KeepBut.of_below hb g none) (.inl rfl)); have n2_ := Aside0.mk (below_step HB.out hb); have n3_ := Aside0.mk (hbox); have n4_ := Aside0.mk ((by rw [hg]; exact (keep_size HK.out) : w.heap.size ≤ gb270)); have n5_ := Aside0.mk ((Nat.le_trans HW0.out (by rw [hg]; exact (keep_size HK.out) : w.heap.size ≤ gb270) : w0.heap.size ≤ gb270)); have n6_ := Aside0.mk ((by rw [hg]; exact Nat.ne_of_lt (IsS75.lt HI0.out) : g ≠ gb270)); have n7_ := Aside0.mk ((by rw [hg]; exact Nat.ne_of_gt (IsS75.lt HI0.out) : gb270 ≠ g)); clear HI0 HK HB; have HI0 := n0_; have HK := n1_; have HB := n2_; have BK270 := n3_; have GW270 := n4_; have GE270 := n5_; have NB0_270 := n6_; have NB270_0 := n7_; clear n0_ n1_ n2_ n3_ n4_ n5_ n6_ n7_ hb hbox hg) | ((with_reducible refine gate_dst (N := 3) rfl ?_); refine box_event ?hg (N := 3) ?hd (cs := #[.int .i64 0, .int .i64 0, .int .i64 0, .slice none 0 0]) (t := 28) ?hr ?_; (case hd => rfl); (case hg => rfl); (case hr => (go_simp; done)); intro gb271 hg w92 hbox hb; have n0_ := Aside0.mk (IsS75.below HI0.out hb); have n1_ := Aside0.mk (blk_below BK270.out hb); have n2_ := Aside0.mk (KeepBut.trans HK.out (KeepBut.of_below hb g none) (.inl rfl)); have n3_ := Aside0.mk (below_step HB.out hb); have n4_ := Aside0.mk (hbox); have n5_ := Aside0.mk ((by rw [hg]; exact (keep_size HK.out) : w.heap.size ≤ gb271)); have n6_ := Aside0.mk ((Nat.le_trans HW0.out (by rw [hg]; exact (keep_size HK.out) : w.heap.size ≤ gb271) : w0.heap.size ≤ gb271)); have n7_ := Aside0.mk ((by rw [hg]; exact Nat.ne_of_lt (blk_lt BK270.out) : gb270 ≠ gb271)); have n8_ := Aside0.mk ((by rw [hg]; exact Nat.ne_of_gt (blk_lt BK270.out) : gb271 ≠ gb270)); have n9_ := Aside0.mk ((by rw [hg]; exact Nat.ne_of_lt (IsS75.lt HI0.out) : g ≠ gb271)); have n10_ := Aside0.mk ((by rw [hg]; exact Nat.ne_of_gt (IsS75.lt HI0.out) : gb271 ≠ g)); clear HI0 BK270 HK HB; have HI0 := n0_; have BK270 := n1_; have HK := n2_; have HB := n3_; have BK271 := n4_; have GW271 := n5_; have GE271 := n6_; have NB270_271 := n7_; have NB271_270 := n8_; have NB0_271 := n9_; have NB271_0 := n10_; clear n0_ n1_ n2_ n3_ n4_ n5_ n6_ n7_ n8_ n9_ n10_ hb hbox hg) | ((with_reducible refine gate_callee (f := 62) rfl ?_); refine goesL_ (some 8) rfl rfl Try.func62 (by kernel_rfl) rfl #[.pointer (some ⟨g, 0, none⟩), .int .u8 48] rfl (by (simp only [List.map_toArray, List.map_cons, List.map_nil]); rfl) ?_; (with_reducible refine (expr_parser_is.calls g s0_0 s0_1 s0_2 s0_3 s0_4 s0_5 s0_6 s0_7 s0_8 s0_9 s0_10 48 false t273 t274 t275 t276 t277 t278 t279 t280 t281 t282 w0 _ HI0.out HB.out A2.out).mono ?_); rintro e w93 ⟨rfl, hi, hb, hk⟩; refine ⟨_, rfl, ?_⟩; have n0_ := Aside0.mk (KeepBut.blk hk BK270.out NB270_0.out (by simp)); have n1_ := Aside0.mk (KeepBut.blk hk BK271.out NB271_0.out (by simp)); have n2_ := Aside0.mk (KeepBut.trans HK.out hk (.inl rfl)); have n3_ := Aside0.mk (hb); have n4_ := Aside0.mk (hi); clear BK270 BK271 HK HB HI0; have BK270 := n0_; have BK271 := n1_; have HK := n2_; have HB := n3_; have HI0 := n4_; clear n0_ n1_ n2_ n3_ n4_ hb hk hi) | ((with_reducible refine gate_callee (f := 62) rfl ?_); refine goesL_ (some 12) rfl rfl Try.func62 (by kernel_rfl) rfl #[.pointer (some ⟨g, 0, none⟩), .int .u8 49] rfl (by (simp only [List.map_toArray, List.map_cons, List.map_nil]); rfl) ?_; (with_reducible refine (expr_parser_is.calls g s0_0 t273 t274 t275 t276 t277 t278 t279 t280 t281 t282 49 false t294 t295 t296 t297 t298 t299 t300 t301 t302 t303 w0 _ HI0.out HB.out A15.out).mono ?_); rintro e w94 ⟨rfl, hi, hb, hk⟩; refine ⟨_, rfl, ?_⟩; have n0_ := Aside0.mk (KeepBut.blk hk BK270.out NB270_0.out (by simp)); have n1_ := Aside0.mk (KeepBut.blk hk BK271.out NB271_0.out (by simp)); have n2_ := Aside0.mk (KeepBut.trans HK.out hk (.inl rfl)); have n3_ := Aside0.mk (hb); have n4_ := Aside0.mk (hi); clear BK270 BK271 HK HB HI0; have BK270 := n0_; have BK271 := n1_; have HK := n2_; have HB := n3_; have HI0 := n4_; clear n0_ n1_ n2_ n3_ n4_ hb hk hi) | ((with_reducible refine gate_callee (f := 62) rfl ?_); refine goesL_ (some 16) rfl rfl Try.func62 (by kernel_rfl) rfl #[.pointer (some ⟨g, 0, none⟩), .int .u8 40] rfl (by (simp only [List.map_toArray, List.map_cons, List.map_nil]); rfl) ?_; (with_reducible refine (expr_parser_is.calls g s0_0 t294 t295 t296 t297 t298 t299 t300 t301 t302 t303 40 false t315 t316 t317 t318 t319 t320 t321 t322 t323 t324 w0 _ HI0.out HB.out A29.out).mono ?_); rintro e w95 ⟨rfl, hi, hb, hk⟩; refine ⟨_, rfl, ?_⟩; have n0_ := Aside0.mk (KeepBut.blk hk BK270.out NB270_0.out (by simp)); have n1_ := Aside0.mk (KeepBut.blk hk BK271.out NB271_0.out (by simp)); have n2_ := Aside0.mk (KeepBut.trans HK.out hk (.inl rfl)); have n3_ := Aside0.mk (hb); have n4_ := Aside0.mk (hi); clear BK270 BK271 HK HB HI0; have BK270 := n0_; have BK271 := n1_; have HK := n2_; have HB := n3_; have HI0 := n4_; clear n0_ n1_ n2_ n3_ n4_ hb hk hi; obtain ⟨ASz96_0, cSz96_0, HGz96, hgz96, HSz96_0, HDz96_0⟩ := HI0.out; obtain ⟨hcz96_0, hcz96_1, hcz96_2, hcz96_3, hcz96_4, hcz96_5, hcz96_6, hcz96_7, hcz96_8, hcz96_9, hcz96_10, -, hfz96_1, hfz96_2, hfz96_3, hfz96_4, hfz96_5, hfz96_6, hfz96_7, hfz96_8, hfz96_9, hfz96_10⟩ := Go.Proofs.YtodbnnfiadcbaaaH.cells11 HGz96; clear HGz96 hgz96) | ((with_reducible refine gate_callee (f := 93) rfl ?_); refine goesL_ (some 42) rfl rfl Try.func93 (by kernel_rfl) rfl #[.pointer (some ⟨g, 0, none⟩)] rfl (by (simp only [List.map_toArray, List.map_cons, List.map_nil]); rfl) ?_; (with_reducible refine (expr_parser_sym.calls k g s0_0 t315 t316 t317 t318 t319 t320 t321 t322 t323 t324 t403 t404 t405 t406 t407 t408 t409 t410 t411 t412 t413 w0 _ HI0.out HB.out A86.out).mono ?_); rintro e w97 ⟨rfl, hi, hb, hk⟩; refine ⟨_, rfl, ?_⟩; have n0_ := Aside0.mk (KeepBut.blk hk BK270.out NB270_0.out (by simp)); have n1_ := Aside0.mk (KeepBut.blk hk BK271.out NB271_0.out (by simp)); have n2_ := Aside0.mk (KeepBut.trans HK.out hk (.inl rfl)); have n3_ := Aside0.mk (hb); have n4_ := Aside0.mk (hi); clear BK270 BK271 HK HB HI0; have BK270 := n0_; have BK271 := n1_; have HK := n2_; have HB := n3_; have HI0 := n4_; clear n0_ n1_ n2_ n3_ n4_ hb hk hi; have hnb98 := NB271_270.out; have hnc98 := NB270_271.out; have hnb99 := NB271_0.out; have hnc99 := NB0_271.out; obtain ⟨hcz100_0, hcz100_1, hcz100_2, hcz100_3, hfz100_0, hfz100_1, hfz100_2, hfz100_3⟩ := Go.Proofs.YtodbnnfiadcbaaaH.cells4 BK271.out) | ((with_reducible refine gate_callee (f := 92) rfl ?_); refine goesL_ (some 45) rfl rfl Try.func92 (by kernel_rfl) rfl #[.pointer (some ⟨g, 0, none⟩)] rfl (by (simp only [List.map_toArray, List.map_cons, List.map_nil]); rfl) ?_; (with_reducible refine (ih92 k (by omega) g s0_0 t404 t405 t406 t407 t408 t409 t410 t411 t412 t413 t414 t415 t416 t417 t420 t421 t422 t423 t424 t425 t426 t427 t428 t429 w0 _ ?side1 ?side2 A87.out).mono ?_); (case side1 => repeat ((with_reducible first | exact HI0.out | apply IsS75.far_ (hne := NB0_271.out)))); (case side2 => repeat ((with_reducible first | exact HB.out | refine below_set ?_ GE271.out))); rintro e w101 ⟨v418, rfl, ho0, hi, hb, hk⟩; refine ⟨_, rfl, ?_⟩; have n0_ := Aside0.mk (KeepBut.blk hk (g' := gb270) (o := .cells #[.int .i64 0, .int .i64 0, .int .i64 0, .slice none 0 0] 28 (0, 0)) (by refine blk_far ?_ NB270_271.out _; refine blk_far ?_ NB270_271.out _; refine blk_far ?_ NB270_271.out _; refine blk_far ?_ NB270_271.out _; exact BK270.out) NB270_0.out (by simp)); have n1_ := Aside0.mk (KeepBut.blk hk (g' := gb271) (o := .cells #[.int .i64 4, .int .i64 t403, .int .i64 0, .slice none 0 0] 28 (0, 0)) (by refine blk_put (cs := #[.int .i64 4, .int .i64 t403, .int .i64 0, .slice none 0 0]) ?_ 3 _ rfl; refine blk_put (cs := #[.int .i64 4, .int .i64 t403, .int .i64 0, .slice none 0 0]) ?_ 2 _ rfl; refine blk_put (cs := #[.int .i64 4, .int .i64 0, .int .i64 0, .slice none 0 0]) ?_ 1 _ rfl; refine blk_put (cs := #[.int .i64 0, .int .i64 0, .int .i64 0, .slice none 0 0]) ?_ 0 _ rfl; exact BK271.out) NB271_0.out (by simp)); have n2_ := Aside0.mk (Kd.V_lower (Kd.V_mono (ok' := fun k_ => (w.heap.size ≤ k_) ∧ k_ ≠ gb270 ∧ k_ ≠ gb271 ∧ k_ ≠ g) ho0 (fun k_ hk_ => ⟨(Nat.le_trans (keep_size (w := w) (g := g) (row := none) (by repeat ((with_reducible first | exact HK.out | refine keep_far ?_ GW271.out _)))) hk_), (Kd.freshB (g := gb270) (o := .cells #[.int .i64 0, .int .i64 0, .int .i64 0, .slice none 0 0] 28 (0, 0)) (by refine blk_far ?_ NB270_271.out _; refine blk_far ?_ NB270_271.out _; refine blk_far ?_ NB270_271.out _; refine blk_far ?_ NB270_271.out _; exact BK270.out) k_ hk_), (Kd.freshB (g := gb271) (o := .cells #[.int .i64 4, .int .i64 t403, .int .i64 0, .slice none 0 0] 28 (0, 0)) (by refine blk_put (cs := #[.int .i64 4, .int .i64 t403, .int .i64 0, .slice none 0 0]) ?_ 3 _ rfl; refine blk_put (cs := #[.int .i64 4, .int .i64 t403, .int .i64 0, .slice none 0 0]) ?_ 2 _ rfl; refine blk_put (cs := #[.int .i64 4, .int .i64 0, .int .i64 0, .slice none 0 0]) ?_ 1 _ rfl; refine blk_put (cs := #[.int .i64 0, .int .i64 0, .int .i64 0, .slice none 0 0]) ?_ 0 _ rfl; exact BK271.out) k_ hk_), (IsS75.fresh (by repeat ((with_reducible first | exact HI0.out | apply IsS75.far_ (hne := NB0_271.out)))) k_ hk_)⟩)) (keep_size (w := w) (g := g) (row := none) (by repeat ((with_reducible first | exact HK.out | refine keep_far ?_ GW271.out _))))); have n3_ := Aside0.mk (KeepBut.trans (by repeat ((with_reducible first | exact HK.out | refine keep_far ?_ GW271.out _))) hk (.inl rfl)); have n4_ := Aside0.mk (hb); have n5_ := Aside0.mk (hi); clear BK270 BK271 HK HB HI0; have BK270 := n0_; have BK271 := n1_; have HO419 := n2_; have HK := n3_; have HB := n4_; have HI0 := n5_; clear n0_ n1_ n2_ n3_ n4_ n5_ hb hk hi ho0; obtain ⟨Ao102, co102, eo102⟩ := Kd.V_slice HO419.out; subst eo102) | ((with_reducible refine gate_dst (N := 46) rfl ?_); refine Kd.N_lit k28 _ 28 ?hg (N' := 46) ?hd (xs := ([(⟨t414, t415, t416, t417⟩ : S28)] : List (S28))) (inner := [.int .i64 t414, .int .i64 t415, .int .i64 t416, .slice Ao102 t417.length co102]) (ok := (fun k_ => (w.heap.size ≤ k_) ∧ k_ ≠ gb270 ∧ k_ ≠ gb271 ∧ k_ ≠ g)) (okp := (fun k_ => (w.heap.size ≤ k_) ∧ k_ ≠ gb270 ∧ k_ ≠ gb271 ∧ k_ ≠ g)) ?hr ?hp (fun _ hk => hk) ((show ∀ k_, w101.heap.size ≤ k_ → (fun k_ => (w.heap.size ≤ k_) ∧ k_ ≠ gb270 ∧ k_ ≠ gb271 ∧ k_ ≠ g) k_ from fun k_ hk => ⟨(Nat.le_trans (keep_size HK.out) hk), Kd.freshB BK270.out k_ hk, Kd.freshB BK271.out k_ hk, IsS75.fresh HI0.out k_ hk⟩) _ (Nat.le_refl _)) (Below.refl _ _) (Nat.le_refl _) (by simp) ?_; (case hd => rfl); (case hg => rfl); (case hr => (go_simp; done)); (case hp => exact (Reps.c4 (show Kd.FK k28 _ _ (⟨t414, t415, t416, t417⟩ : S28) [.int .i64 t414, .int .i64 t415, .int .i64 t416, .slice Ao102 t417.length co102] from (k28_mkF _ _ (⟨t414, t415, t416, t417⟩ : S28) (Kd.V_reads' (Kd.V_mono (ok' := (fun k_ => (w.heap.size ≤ k_) ∧ k_ ≠ gb270 ∧ k_ ≠ gb271 ∧ k_ ≠ g)) (HO419.out) (fun k_ hk => ⟨hk.1, ⟨hk.2.1, ⟨hk.2.2.1, hk.2.2.2⟩⟩⟩))).2.1 (Kd.V_F (Kd.V_mono (ok' := (fun k_ => (w.heap.size ≤ k_) ∧ k_ ≠ gb270 ∧ k_ ≠ gb271 ∧ k_ ≠ g)) (HO419.out) (fun k_ hk => ⟨hk.1, ⟨hk.2.1, ⟨hk.2.2.1, hk.2.2.2⟩⟩⟩))))) (Reps.none _ _))); intro v431 w103 ho104 hb hg_ hnew_; clear hg_ hnew_; (rw [← Ny430.out] at ho104); have n0_ := Aside0.mk (Kd.V_elder' HO419.out (Kd.N_base ho104) hb); have n1_ := Aside0.mk (Kd.N_lower ho104 (keep_size HK.out)); have n2_ := Aside0.mk (IsS75.below HI0.out hb); have n3_ := Aside0.mk (blk_below BK270.out hb); have n4_ := Aside0.mk (blk_below BK271.out hb); have n5_ := Aside0.mk (KeepBut.trans HK.out (KeepBut.of_below hb g none) (.inl rfl)); have n6_ := Aside0.mk (below_step HB.out hb); clear HO419 HI0 BK270 BK271 HK HB; have HO419 := n0_; have HO432 := n1_; have HI0 := n2_; have BK270 := n3_; have BK271 := n4_; have HK := n5_; have HB := n6_; clear n0_ n1_ n2_ n3_ n4_ n5_ n6_ hb ho104; obtain ⟨Ao105, co105, eo105⟩ := Kd.N_slice HO432.out; subst eo105; obtain ⟨hcz106_0, hcz106_1, hcz106_2, hcz106_3, hfz106_0, hfz106_1, hfz106_2, hfz106_3⟩ := Go.Proofs.YtodbnnfiadcbaaaH.cells4 BK271.out; obtain ⟨ASz107_0, cSz107_0, HGz107, hgz107, HSz107_0, HDz107_0⟩ := HI0.out; obtain ⟨hcz107_0, hcz107_1, hcz107_2, hcz107_3, hcz107_4, hcz107_5, hcz107_6, hcz107_7, hcz107_8, hcz107_9, hcz107_10, -, hfz107_1, hfz107_2, hfz107_3, hfz107_4, hfz107_5, hfz107_6, hfz107_7, hfz107_8, hfz107_9, hfz107_10⟩ := Go.Proofs.YtodbnnfiadcbaaaH.cells11 HGz107; clear HGz107 hgz107) | ((with_reducible refine gate_callee (f := 93) rfl ?_); refine goesL_ (some 57) rfl rfl Try.func93 (by kernel_rfl) rfl #[.pointer (some ⟨g, 0, none⟩)] rfl (by (simp only [List.map_toArray, List.map_cons, List.map_nil]); rfl) ?_; (with_reducible refine (expr_parser_sym.calls k g s0_0 t420 t421 t422 t423 t424 t425 t426 t427 t428 t429 t433 t434 t435 t436 t437 t438 t439 t440 t441 t442 t443 w0 _ ?side1 ?side2 A89.out).mono ?_); (case side1 => repeat ((with_reducible first | exact HI0.out | apply IsS75.far_ (hne := NB0_271.out)))); (case side2 => repeat ((with_reducible first | exact HB.out | refine below_set ?_ GE271.out))); rintro e w108 ⟨rfl, hi, hb, hk⟩; refine ⟨_, rfl, ?_⟩; have n0_ := Aside0.mk (KeepBut.blk hk (g' := gb270) (o := .cells #[.int .i64 0, .int .i64 0, .int .i64 0, .slice none 0 0] 28 (0, 0)) (by refine blk_far ?_ NB270_271.out _; exact BK270.out) NB270_0.out (by simp)); have n1_ := Aside0.mk (KeepBut.blk hk (g' := gb271) (o := .cells #[.int .i64 4, .int .i64 t403, .int .i64 0, .slice Ao105 y430.length co105] 28 (0, 0)) (by refine blk_put (cs := #[.int .i64 4, .int .i64 t403, .int .i64 0, .slice none 0 0]) ?_ 3 _ rfl; exact BK271.out) NB271_0.out (by simp)); have n2_ := Aside0.mk (Kd.V_mono (Kd.V_keep (Kd.V_mono (ok := fun k_ => ((((w.heap.size ≤ k_)) ∧ (k_ ≠ gb270 ∧ (k_ ≠ gb271 ∧ k_ ≠ g))) ∧ some k_ ≠ (.slice Ao105 y430.length co105 : Value).ownBlock)) (by exact (Kd.V_mono (Kd.V_far (p := ⟨gb271, 3, none⟩) (Kd.V_mono HO419.out (fun k_ hk => (⟨hk, hk.1.2.2.1⟩ : _ ∧ k_ ≠ gb271))) (fun _ hk => hk.2) (.slice Ao105 y430.length co105)) (fun _ h_ => h_.1))) (fun k_ hk_ => (⟨hk_, hk_.1.2.2.2⟩ : _ ∧ k_ ≠ g))) hk (fun _ h => h.2)) (fun _ h => h.1)); have n3_ := Aside0.mk (Kd.N_mono (Kd.N_keep (Kd.N_mono (ok := fun k_ => (((w.heap.size ≤ k_)) ∧ (k_ ≠ gb270 ∧ (k_ ≠ gb271 ∧ k_ ≠ g)))) (by exact (Kd.N_mono (Kd.N_far (p := ⟨gb271, 3, none⟩) (Kd.N_mono HO432.out (fun k_ hk => (⟨hk, hk.2.2.1⟩ : _ ∧ k_ ≠ gb271))) (fun _ hk => hk.2) (.slice Ao105 y430.length co105)) (fun _ h_ => h_.1))) (fun k_ hk_ => (⟨hk_, hk_.2.2.2⟩ : _ ∧ k_ ≠ g))) hk (fun _ h => h.2)) (fun _ h => h.1)); have n4_ := Aside0.mk (KeepBut.trans (by repeat ((with_reducible first | exact HK.out | refine keep_far ?_ GW271.out _))) hk (.inl rfl)); have n5_ := Aside0.mk (hb); have n6_ := Aside0.mk (hi); clear BK270 BK271 HO419 HO432 HK HB HI0; have BK270 := n0_; have BK271 := n1_; have HO419 := n2_; have HO432 := n3_; have HK := n4_; have HB := n5_; have HI0 := n6_; clear n0_ n1_ n2_ n3_ n4_ n5_ n6_ hb hk hi; obtain ⟨hcz109_0, hcz109_1, hcz109_2, hcz109_3, hfz109_0, hfz109_1, hfz109_2, hfz109_3⟩ := Go.Proofs.YtodbnnfiadcbaaaH.cells4 BK271.out) | ((with_reducible refine gate_callee (f := 40) rfl ?_); refine goesL_ (some 60) rfl rfl Try.func40 (by kernel_rfl) rfl #[.pointer (some ⟨g, 0, none⟩)] rfl (by (simp only [List.map_toArray, List.map_cons, List.map_nil]); rfl) ?_; (with_reducible refine (expr_parser_next.calls k g s0_0 t434 t435 t436 t437 t438 t439 t440 t441 t442 t443 t444 t445 t446 t447 t448 t449 t450 t451 t452 t453 w0 _ ?side1 ?side2 A90.out).mono ?_); (case side1 => repeat ((with_reducible first | exact HI0.out | apply IsS75.far_ (hne := NB0_271.out)))); (case side2 => repeat ((with_reducible first | exact HB.out | refine below_set ?_ GE271.out))); rintro e w110 ⟨rfl, hi, hb, hk⟩; refine ⟨_, rfl, ?_⟩; have n0_ := Aside0.mk (KeepBut.blk hk (g' := gb270) (o := .cells #[.int .i64 0, .int .i64 0, .int .i64 0, .slice none 0 0] 28 (0, 0)) (by refine blk_far ?_ NB270_271.out _; exact BK270.out) NB270_0.out (by simp)); have n1_ := Aside0.mk (KeepBut.blk hk (g' := gb271) (o := .cells #[.int .i64 4, .int .i64 t403, .int .i64 t433, .slice Ao105 y430.length co105] 28 (0, 0)) (by refine blk_put (cs := #[.int .i64 4, .int .i64 t403, .int .i64 0, .slice Ao105 y430.length co105]) ?_ 2 _ rfl; exact BK271.out) NB271_0.out (by simp)); have n2_ := Aside0.mk (Kd.V_mono (Kd.V_keep (Kd.V_mono (ok := fun k_ => ((((w.heap.size ≤ k_)) ∧ (k_ ≠ gb270 ∧ (k_ ≠ gb271 ∧ k_ ≠ g))) ∧ some k_ ≠ (.slice Ao105 y430.length co105 : Value).ownBlock)) (by exact (Kd.V_mono (Kd.V_far (p := ⟨gb271, 2, none⟩) (Kd.V_mono HO419.out (fun k_ hk => (⟨hk, hk.1.2.2.1⟩ : _ ∧ k_ ≠ gb271))) (fun _ hk => hk.2) (.int .i64 t433)) (fun _ h_ => h_.1))) (fun k_ hk_ => (⟨hk_, hk_.1.2.2.2⟩ : _ ∧ k_ ≠ g))) hk (fun _ h => h.2)) (fun _ h => h.1)); have n3_ := Aside0.mk (Kd.N_mono (Kd.N_keep (Kd.N_mono (ok := fun k_ => (((w.heap.size ≤ k_)) ∧ (k_ ≠ gb270 ∧ (k_ ≠ gb271 ∧ k_ ≠ g)))) (by exact (Kd.N_mono (Kd.N_far (p := ⟨gb271, 2, none⟩) (Kd.N_mono HO432.out (fun k_ hk => (⟨hk, hk.2.2.1⟩ : _ ∧ k_ ≠ gb271))) (fun _ hk => hk.2) (.int .i64 t433)) (fun _ h_ => h_.1))) (fun k_ hk_ => (⟨hk_, hk_.2.2.2⟩ : _ ∧ k_ ≠ g))) hk (fun _ h => h.2)) (fun _ h => h.1)); have n4_ := Aside0.mk (KeepBut.trans (by repeat ((with_reducible first | exact HK.out | refine keep_far ?_ GW271.out _))) hk (.inl rfl)); have n5_ := Aside0.mk (hb); have n6_ := Aside0.mk (hi); clear BK270 BK271 HO419 HO432 HK HB HI0; have BK270 := n0_; have BK271 := n1_; have HO419 := n2_; have HO432 := n3_; have HK := n4_; have HB := n5_; have HI0 := n6_; clear n0_ n1_ n2_ n3_ n4_ n5_ n6_ hb hk hi; obtain ⟨hcz111_0, hcz111_1, hcz111_2, hcz111_3, hfz111_0, hfz111_1, hfz111_2, hfz111_3⟩ := Go.Proofs.YtodbnnfiadcbaaaH.cells4 BK271.out; have hnb112 := NB270_0.out; have hnc112 := NB0_270.out; obtain ⟨hcz113_0, hcz113_1, hcz113_2, hcz113_3, hfz113_0, hfz113_1, hfz113_2, hfz113_3⟩ := Go.Proofs.YtodbnnfiadcbaaaH.cells4 BK270.out))
              refine bodyPost_ret (results_cell_row rfl _ _ gb270 28 #[.int .i64 4, .int .i64 t403, .int .i64 t433, .slice Ao105 y430.length co105] (0, 0) _ rfl (by refine blk_put (cs := #[.int .i64 4, .int .i64 t403, .int .i64 t433, .slice none 0 0]) ?_ 3 _ rfl; refine blk_put (cs := #[.int .i64 4, .int .i64 t403, .int .i64 0, .slice none 0 0]) ?_ 2 _ rfl; refine blk_put (cs := #[.int .i64 4, .int .i64 0, .int .i64 0, .slice none 0 0]) ?_ 1 _ rfl; refine blk_put (cs := #[.int .i64 0, .int .i64 0, .int .i64 0, .slice none 0 0]) ?_ 0 _ rfl; exact BK270.out) Try.underlying28 rfl (by kernel_rfl)) rfl ?_
              exact ⟨_, by rfl, Kd.N_V (by exact Kd.N_mono (Kd.N_far (p := ⟨gb270, 3, none⟩) (Kd.N_far (p := ⟨gb270, 2, none⟩) (Kd.N_far (p := ⟨gb270, 1, none⟩) (Kd.N_far (p := ⟨gb270, 0, none⟩) (Kd.N_mono HO432.out (fun k_ hk => (⟨hk, hk.2.1⟩ : _ ∧ k_ ≠ gb270))) (fun _ hk => hk.2) (.int .i64 4)) (fun _ hk => hk.2) (.int .i64 t403)) (fun _ hk => hk.2) (.int .i64 t433)) (fun _ hk => hk.2) (.slice Ao105 y430.length co105)) (fun _ hk => hk.1.1)), by repeat ((with_reducible first | exact HI0.out | apply IsS75.far_ (hne := NB0_270.out))), by repeat ((with_reducible first | exact HB.out | refine below_set ?_ GE270.out)), by repeat ((with_reducible first | exact HK.out | refine keep_far ?_ GW270.out _))⟩
            · rw [if_neg c88] at H
              have c88b0 : (t423 == 6) = false := beq_eq_false_iff_ne.mpr c88
              have c88b1 : (t423 != 6) = true := bne_iff_ne.mpr c88
              replace H := Option.bind_eq_some_iff.mp H
              obtain ⟨⟨t454, t455, t456, t457, t458, t459, t460, t461, t462, t463⟩, A1140, H⟩ := H
              try dsimp only at H
              have A114 := Aside0.mk A1140
              clear A1140
              replace H := Option.bind_eq_some_iff.mp H
              obtain ⟨⟨t464, t465, t466, t467, t468, t469, t470, t471, t472, t473⟩, A1150, H⟩ := H
              try dsimp only at H
              have A115 := Aside0.mk A1150
              clear A1150
              simp only [Option.some.injEq, Prod.mk.injEq] at H
              obtain ⟨rfl, rfl, rfl, rfl, rfl, rfl, rfl, rfl, rfl, rfl, rfl, rfl, rfl, rfl⟩ := H
              go_enter Try.func86, Try.ntmps86
              go_wp2_with (first | ((with_reducible refine gate_dst (N := 2) rfl ?_); refine box_event ?hg (N := 2) ?hd (cs := #[.int .i64 0, .int .i64 0, .int .i64 0, .slice none 0 0]) (t := 28) ?hr ?_; (case hd => rfl); (case hg => rfl); (case hr => (go_simp; done)); intro gb270 hg w116 hbox hb; have n0_ := Aside0.mk (IsS75.below HI0.out hb); have n1_ := Aside0.mk (KeepBut.trans HK.out (KeepBut.of_below hb g none) (.inl rfl)); have n2_ := Aside0.mk (below_step HB.out hb); have n3_ := Aside0.mk (hbox); have n4_ := Aside0.mk ((by rw [hg]; exact (keep_size HK.out) : w.heap.size ≤ gb270)); have n5_ := Aside0.mk ((Nat.le_trans HW0.out (by rw [hg]; exact (keep_size HK.out) : w.heap.size ≤ gb270) : w0.heap.size ≤ gb270)); have n6_ := Aside0.mk ((by rw [hg]; exact Nat.ne_of_lt (IsS75.lt HI0.out) : g ≠ gb270)); have n7_ := Aside0.mk ((by rw [hg]; exact Nat.ne_of_gt (IsS75.lt HI0.out) : gb270 ≠ g)); clear HI0 HK HB; have HI0 := n0_; have HK := n1_; have HB := n2_; have BK270 := n3_; have GW270 := n4_; have GE270 := n5_; have NB0_270 := n6_; have NB270_0 := n7_; clear n0_ n1_ n2_ n3_ n4_ n5_ n6_ n7_ hb hbox hg) | ((with_reducible refine gate_dst (N := 3) rfl ?_); refine box_event ?hg (N := 3) ?hd (cs := #[.int .i64 0, .int .i64 0, .int .i64 0, .slice none 0 0]) (t := 28) ?hr ?_; (case hd => rfl); (case hg => rfl); (case hr => (go_simp; done)); intro gb271 hg w117 hbox hb; have n0_ := Aside0.mk (IsS75.below HI0.out hb); have n1_ := Aside0.mk (blk_below BK270.out hb); have n2_ := Aside0.mk (KeepBut.trans HK.out (KeepBut.of_below hb g none) (.inl rfl)); have n3_ := Aside0.mk (below_step HB.out hb); have n4_ := Aside0.mk (hbox); have n5_ := Aside0.mk ((by rw [hg]; exact (keep_size HK.out) : w.heap.size ≤ gb271)); have n6_ := Aside0.mk ((Nat.le_trans HW0.out (by rw [hg]; exact (keep_size HK.out) : w.heap.size ≤ gb271) : w0.heap.size ≤ gb271)); have n7_ := Aside0.mk ((by rw [hg]; exact Nat.ne_of_lt (blk_lt BK270.out) : gb270 ≠ gb271)); have n8_ := Aside0.mk ((by rw [hg]; exact Nat.ne_of_gt (blk_lt BK270.out) : gb271 ≠ gb270)); have n9_ := Aside0.mk ((by rw [hg]; exact Nat.ne_of_lt (IsS75.lt HI0.out) : g ≠ gb271)); have n10_ := Aside0.mk ((by rw [hg]; exact Nat.ne_of_gt (IsS75.lt HI0.out) : gb271 ≠ g)); clear HI0 BK270 HK HB; have HI0 := n0_; have BK270 := n1_; have HK := n2_; have HB := n3_; have BK271 := n4_; have GW271 := n5_; have GE271 := n6_; have NB270_271 := n7_; have NB271_270 := n8_; have NB0_271 := n9_; have NB271_0 := n10_; clear n0_ n1_ n2_ n3_ n4_ n5_ n6_ n7_ n8_ n9_ n10_ hb hbox hg) | ((with_reducible refine gate_callee (f := 62) rfl ?_); refine goesL_ (some 8) rfl rfl Try.func62 (by kernel_rfl) rfl #[.pointer (some ⟨g, 0, none⟩), .int .u8 48] rfl (by (simp only [List.map_toArray, List.map_cons, List.map_nil]); rfl) ?_; (with_reducible refine (expr_parser_is.calls g s0_0 s0_1 s0_2 s0_3 s0_4 s0_5 s0_6 s0_7 s0_8 s0_9 s0_10 48 false t273 t274 t275 t276 t277 t278 t279 t280 t281 t282 w0 _ HI0.out HB.out A2.out).mono ?_); rintro e w118 ⟨rfl, hi, hb, hk⟩; refine ⟨_, rfl, ?_⟩; have n0_ := Aside0.mk (KeepBut.blk hk BK270.out NB270_0.out (by simp)); have n1_ := Aside0.mk (KeepBut.blk hk BK271.out NB271_0.out (by simp)); have n2_ := Aside0.mk (KeepBut.trans HK.out hk (.inl rfl)); have n3_ := Aside0.mk (hb); have n4_ := Aside0.mk (hi); clear BK270 BK271 HK HB HI0; have BK270 := n0_; have BK271 := n1_; have HK := n2_; have HB := n3_; have HI0 := n4_; clear n0_ n1_ n2_ n3_ n4_ hb hk hi) | ((with_reducible refine gate_callee (f := 62) rfl ?_); refine goesL_ (some 12) rfl rfl Try.func62 (by kernel_rfl) rfl #[.pointer (some ⟨g, 0, none⟩), .int .u8 49] rfl (by (simp only [List.map_toArray, List.map_cons, List.map_nil]); rfl) ?_; (with_reducible refine (expr_parser_is.calls g s0_0 t273 t274 t275 t276 t277 t278 t279 t280 t281 t282 49 false t294 t295 t296 t297 t298 t299 t300 t301 t302 t303 w0 _ HI0.out HB.out A15.out).mono ?_); rintro e w119 ⟨rfl, hi, hb, hk⟩; refine ⟨_, rfl, ?_⟩; have n0_ := Aside0.mk (KeepBut.blk hk BK270.out NB270_0.out (by simp)); have n1_ := Aside0.mk (KeepBut.blk hk BK271.out NB271_0.out (by simp)); have n2_ := Aside0.mk (KeepBut.trans HK.out hk (.inl rfl)); have n3_ := Aside0.mk (hb); have n4_ := Aside0.mk (hi); clear BK270 BK271 HK HB HI0; have BK270 := n0_; have BK271 := n1_; have HK := n2_; have HB := n3_; have HI0 := n4_; clear n0_ n1_ n2_ n3_ n4_ hb hk hi) | ((with_reducible refine gate_callee (f := 62) rfl ?_); refine goesL_ (some 16) rfl rfl Try.func62 (by kernel_rfl) rfl #[.pointer (some ⟨g, 0, none⟩), .int .u8 40] rfl (by (simp only [List.map_toArray, List.map_cons, List.map_nil]); rfl) ?_; (with_reducible refine (expr_parser_is.calls g s0_0 t294 t295 t296 t297 t298 t299 t300 t301 t302 t303 40 false t315 t316 t317 t318 t319 t320 t321 t322 t323 t324 w0 _ HI0.out HB.out A29.out).mono ?_); rintro e w120 ⟨rfl, hi, hb, hk⟩; refine ⟨_, rfl, ?_⟩; have n0_ := Aside0.mk (KeepBut.blk hk BK270.out NB270_0.out (by simp)); have n1_ := Aside0.mk (KeepBut.blk hk BK271.out NB271_0.out (by simp)); have n2_ := Aside0.mk (KeepBut.trans HK.out hk (.inl rfl)); have n3_ := Aside0.mk (hb); have n4_ := Aside0.mk (hi); clear BK270 BK271 HK HB HI0; have BK270 := n0_; have BK271 := n1_; have HK := n2_; have HB := n3_; have HI0 := n4_; clear n0_ n1_ n2_ n3_ n4_ hb hk hi; obtain ⟨ASz121_0, cSz121_0, HGz121, hgz121, HSz121_0, HDz121_0⟩ := HI0.out; obtain ⟨hcz121_0, hcz121_1, hcz121_2, hcz121_3, hcz121_4, hcz121_5, hcz121_6, hcz121_7, hcz121_8, hcz121_9, hcz121_10, -, hfz121_1, hfz121_2, hfz121_3, hfz121_4, hfz121_5, hfz121_6, hfz121_7, hfz121_8, hfz121_9, hfz121_10⟩ := Go.Proofs.YtodbnnfiadcbaaaH.cells11 HGz121; clear HGz121 hgz121) | ((with_reducible refine gate_callee (f := 93) rfl ?_); refine goesL_ (some 42) rfl rfl Try.func93 (by kernel_rfl) rfl #[.pointer (some ⟨g, 0, none⟩)] rfl (by (simp only [List.map_toArray, List.map_cons, List.map_nil]); rfl) ?_; (with_reducible refine (expr_parser_sym.calls k g s0_0 t315 t316 t317 t318 t319 t320 t321 t322 t323 t324 t403 t404 t405 t406 t407 t408 t409 t410 t411 t412 t413 w0 _ HI0.out HB.out A86.out).mono ?_); rintro e w122 ⟨rfl, hi, hb, hk⟩; refine ⟨_, rfl, ?_⟩; have n0_ := Aside0.mk (KeepBut.blk hk BK270.out NB270_0.out (by simp)); have n1_ := Aside0.mk (KeepBut.blk hk BK271.out NB271_0.out (by simp)); have n2_ := Aside0.mk (KeepBut.trans HK.out hk (.inl rfl)); have n3_ := Aside0.mk (hb); have n4_ := Aside0.mk (hi); clear BK270 BK271 HK HB HI0; have BK270 := n0_; have BK271 := n1_; have HK := n2_; have HB := n3_; have HI0 := n4_; clear n0_ n1_ n2_ n3_ n4_ hb hk hi; have hnb123 := NB271_270.out; have hnc123 := NB270_271.out; have hnb124 := NB271_0.out; have hnc124 := NB0_271.out; obtain ⟨hcz125_0, hcz125_1, hcz125_2, hcz125_3, hfz125_0, hfz125_1, hfz125_2, hfz125_3⟩ := Go.Proofs.YtodbnnfiadcbaaaH.cells4 BK271.out) | ((with_reducible refine gate_callee (f := 92) rfl ?_); refine goesL_ (some 45) rfl rfl Try.func92 (by kernel_rfl) rfl #[.pointer (some ⟨g, 0, none⟩)] rfl (by (simp only [List.map_toArray, List.map_cons, List.map_nil]); rfl) ?_; (with_reducible refine (ih92 k (by omega) g s0_0 t404 t405 t406 t407 t408 t409 t410 t411 t412 t413 t414 t415 t416 t417 t420 t421 t422 t423 t424 t425 t426 t427 t428 t429 w0 _ ?side1 ?side2 A87.out).mono ?_); (case side1 => repeat ((with_reducible first | exact HI0.out | apply IsS75.far_ (hne := NB0_271.out)))); (case side2 => repeat ((with_reducible first | exact HB.out | refine below_set ?_ GE271.out))); rintro e w126 ⟨v418, rfl, ho0, hi, hb, hk⟩; refine ⟨_, rfl, ?_⟩; have n0_ := Aside0.mk (KeepBut.blk hk (g' := gb270) (o := .cells #[.int .i64 0, .int .i64 0, .int .i64 0, .slice none 0 0] 28 (0, 0)) (by refine blk_far ?_ NB270_271.out _; refine blk_far ?_ NB270_271.out _; refine blk_far ?_ NB270_271.out _; refine blk_far ?_ NB270_271.out _; exact BK270.out) NB270_0.out (by simp)); have n1_ := Aside0.mk (KeepBut.blk hk (g' := gb271) (o := .cells #[.int .i64 4, .int .i64 t403, .int .i64 0, .slice none 0 0] 28 (0, 0)) (by refine blk_put (cs := #[.int .i64 4, .int .i64 t403, .int .i64 0, .slice none 0 0]) ?_ 3 _ rfl; refine blk_put (cs := #[.int .i64 4, .int .i64 t403, .int .i64 0, .slice none 0 0]) ?_ 2 _ rfl; refine blk_put (cs := #[.int .i64 4, .int .i64 0, .int .i64 0, .slice none 0 0]) ?_ 1 _ rfl; refine blk_put (cs := #[.int .i64 0, .int .i64 0, .int .i64 0, .slice none 0 0]) ?_ 0 _ rfl; exact BK271.out) NB271_0.out (by simp)); have n2_ := Aside0.mk (Kd.V_lower (Kd.V_mono (ok' := fun k_ => (w.heap.size ≤ k_) ∧ k_ ≠ gb270 ∧ k_ ≠ gb271 ∧ k_ ≠ g) ho0 (fun k_ hk_ => ⟨(Nat.le_trans (keep_size (w := w) (g := g) (row := none) (by repeat ((with_reducible first | exact HK.out | refine keep_far ?_ GW271.out _)))) hk_), (Kd.freshB (g := gb270) (o := .cells #[.int .i64 0, .int .i64 0, .int .i64 0, .slice none 0 0] 28 (0, 0)) (by refine blk_far ?_ NB270_271.out _; refine blk_far ?_ NB270_271.out _; refine blk_far ?_ NB270_271.out _; refine blk_far ?_ NB270_271.out _; exact BK270.out) k_ hk_), (Kd.freshB (g := gb271) (o := .cells #[.int .i64 4, .int .i64 t403, .int .i64 0, .slice none 0 0] 28 (0, 0)) (by refine blk_put (cs := #[.int .i64 4, .int .i64 t403, .int .i64 0, .slice none 0 0]) ?_ 3 _ rfl; refine blk_put (cs := #[.int .i64 4, .int .i64 t403, .int .i64 0, .slice none 0 0]) ?_ 2 _ rfl; refine blk_put (cs := #[.int .i64 4, .int .i64 0, .int .i64 0, .slice none 0 0]) ?_ 1 _ rfl; refine blk_put (cs := #[.int .i64 0, .int .i64 0, .int .i64 0, .slice none 0 0]) ?_ 0 _ rfl; exact BK271.out) k_ hk_), (IsS75.fresh (by repeat ((with_reducible first | exact HI0.out | apply IsS75.far_ (hne := NB0_271.out)))) k_ hk_)⟩)) (keep_size (w := w) (g := g) (row := none) (by repeat ((with_reducible first | exact HK.out | refine keep_far ?_ GW271.out _))))); have n3_ := Aside0.mk (KeepBut.trans (by repeat ((with_reducible first | exact HK.out | refine keep_far ?_ GW271.out _))) hk (.inl rfl)); have n4_ := Aside0.mk (hb); have n5_ := Aside0.mk (hi); clear BK270 BK271 HK HB HI0; have BK270 := n0_; have BK271 := n1_; have HO419 := n2_; have HK := n3_; have HB := n4_; have HI0 := n5_; clear n0_ n1_ n2_ n3_ n4_ n5_ hb hk hi ho0; obtain ⟨Ao127, co127, eo127⟩ := Kd.V_slice HO419.out; subst eo127) | ((with_reducible refine gate_dst (N := 46) rfl ?_); refine Kd.N_lit k28 _ 28 ?hg (N' := 46) ?hd (xs := ([(⟨t414, t415, t416, t417⟩ : S28)] : List (S28))) (inner := [.int .i64 t414, .int .i64 t415, .int .i64 t416, .slice Ao127 t417.length co127]) (ok := (fun k_ => (w.heap.size ≤ k_) ∧ k_ ≠ gb270 ∧ k_ ≠ gb271 ∧ k_ ≠ g)) (okp := (fun k_ => (w.heap.size ≤ k_) ∧ k_ ≠ gb270 ∧ k_ ≠ gb271 ∧ k_ ≠ g)) ?hr ?hp (fun _ hk => hk) ((show ∀ k_, w126.heap.size ≤ k_ → (fun k_ => (w.heap.size ≤ k_) ∧ k_ ≠ gb270 ∧ k_ ≠ gb271 ∧ k_ ≠ g) k_ from fun k_ hk => ⟨(Nat.le_trans (keep_size HK.out) hk), Kd.freshB BK270.out k_ hk, Kd.freshB BK271.out k_ hk, IsS75.fresh HI0.out k_ hk⟩) _ (Nat.le_refl _)) (Below.refl _ _) (Nat.le_refl _) (by simp) ?_; (case hd => rfl); (case hg => rfl); (case hr => (go_simp; done)); (case hp => exact (Reps.c4 (show Kd.FK k28 _ _ (⟨t414, t415, t416, t417⟩ : S28) [.int .i64 t414, .int .i64 t415, .int .i64 t416, .slice Ao127 t417.length co127] from (k28_mkF _ _ (⟨t414, t415, t416, t417⟩ : S28) (Kd.V_reads' (Kd.V_mono (ok' := (fun k_ => (w.heap.size ≤ k_) ∧ k_ ≠ gb270 ∧ k_ ≠ gb271 ∧ k_ ≠ g)) (HO419.out) (fun k_ hk => ⟨hk.1, ⟨hk.2.1, ⟨hk.2.2.1, hk.2.2.2⟩⟩⟩))).2.1 (Kd.V_F (Kd.V_mono (ok' := (fun k_ => (w.heap.size ≤ k_) ∧ k_ ≠ gb270 ∧ k_ ≠ gb271 ∧ k_ ≠ g)) (HO419.out) (fun k_ hk => ⟨hk.1, ⟨hk.2.1, ⟨hk.2.2.1, hk.2.2.2⟩⟩⟩))))) (Reps.none _ _))); intro v431 w128 ho129 hb hg_ hnew_; clear hg_ hnew_; (rw [← Ny430.out] at ho129); have n0_ := Aside0.mk (Kd.V_elder' HO419.out (Kd.N_base ho129) hb); have n1_ := Aside0.mk (Kd.N_lower ho129 (keep_size HK.out)); have n2_ := Aside0.mk (IsS75.below HI0.out hb); have n3_ := Aside0.mk (blk_below BK270.out hb); have n4_ := Aside0.mk (blk_below BK271.out hb); have n5_ := Aside0.mk (KeepBut.trans HK.out (KeepBut.of_below hb g none) (.inl rfl)); have n6_ := Aside0.mk (below_step HB.out hb); clear HO419 HI0 BK270 BK271 HK HB; have HO419 := n0_; have HO432 := n1_; have HI0 := n2_; have BK270 := n3_; have BK271 := n4_; have HK := n5_; have HB := n6_; clear n0_ n1_ n2_ n3_ n4_ n5_ n6_ hb ho129; obtain ⟨Ao130, co130, eo130⟩ := Kd.N_slice HO432.out; subst eo130; obtain ⟨hcz131_0, hcz131_1, hcz131_2, hcz131_3, hfz131_0, hfz131_1, hfz131_2, hfz131_3⟩ := Go.Proofs.YtodbnnfiadcbaaaH.cells4 BK271.out; obtain ⟨ASz132_0, cSz132_0, HGz132, hgz132, HSz132_0, HDz132_0⟩ := HI0.out; obtain ⟨hcz132_0, hcz132_1, hcz132_2, hcz132_3, hcz132_4, hcz132_5, hcz132_6, hcz132_7, hcz132_8, hcz132_9, hcz132_10, -, hfz132_1, hfz132_2, hfz132_3, hfz132_4, hfz132_5, hfz132_6, hfz132_7, hfz132_8, hfz132_9, hfz132_10⟩ := Go.Proofs.YtodbnnfiadcbaaaH.cells11 HGz132; clear HGz132 hgz132) | ((with_reducible refine gate_callee (f := 42) rfl ?_); refine goesL_ (some 55) rfl rfl Try.func42 (by kernel_rfl) rfl #[.pointer (some ⟨g, 0, none⟩), .int .i64 1] rfl (by (simp only [List.map_toArray, List.map_cons, List.map_nil]); rfl) ?_; (with_reducible refine (expr_parser_wrong.calls g s0_0 t420 t421 t422 t423 t424 t425 t426 t427 t428 t429 1 t454 t455 t456 t457 t458 t459 t460 t461 t462 t463 w0 _ ?side1 ?side2 A114.out).mono ?_); (case side1 => repeat ((with_reducible first | exact HI0.out | apply IsS75.far_ (hne := NB0_271.out)))); (case side2 => repeat ((with_reducible first | exact HB.out | refine below_set ?_ GE271.out))); rintro e w133 ⟨rfl, hi, hb, hk⟩; refine ⟨_, rfl, ?_⟩; have n0_ := Aside0.mk (KeepBut.blk hk (g' := gb270) (o := .cells #[.int .i64 0, .int .i64 0, .int .i64 0, .slice none 0 0] 28 (0, 0)) (by refine blk_far ?_ NB270_271.out _; exact BK270.out) NB270_0.out (by simp)); have n1_ := Aside0.mk (KeepBut.blk hk (g' := gb271) (o := .cells #[.int .i64 4, .int .i64 t403, .int .i64 0, .slice Ao130 y430.length co130] 28 (0, 0)) (by refine blk_put (cs := #[.int .i64 4, .int .i64 t403, .int .i64 0, .slice none 0 0]) ?_ 3 _ rfl; exact BK271.out) NB271_0.out (by simp)); have n2_ := Aside0.mk (Kd.V_mono (Kd.V_keep (Kd.V_mono (ok := fun k_ => ((((w.heap.size ≤ k_)) ∧ (k_ ≠ gb270 ∧ (k_ ≠ gb271 ∧ k_ ≠ g))) ∧ some k_ ≠ (.slice Ao130 y430.length co130 : Value).ownBlock)) (by exact (Kd.V_mono (Kd.V_far (p := ⟨gb271, 3, none⟩) (Kd.V_mono HO419.out (fun k_ hk => (⟨hk, hk.1.2.2.1⟩ : _ ∧ k_ ≠ gb271))) (fun _ hk => hk.2) (.slice Ao130 y430.length co130)) (fun _ h_ => h_.1))) (fun k_ hk_ => (⟨hk_, hk_.1.2.2.2⟩ : _ ∧ k_ ≠ g))) hk (fun _ h => h.2)) (fun _ h => h.1)); have n3_ := Aside0.mk (Kd.N_mono (Kd.N_keep (Kd.N_mono (ok := fun k_ => (((w.heap.size ≤ k_)) ∧ (k_ ≠ gb270 ∧ (k_ ≠ gb271 ∧ k_ ≠ g)))) (by exact (Kd.N_mono (Kd.N_far (p := ⟨gb271, 3, none⟩) (Kd.N_mono HO432.out (fun k_ hk => (⟨hk, hk.2.2.1⟩ : _ ∧ k_ ≠ gb271))) (fun _ hk => hk.2) (.slice Ao130 y430.length co130)) (fun _ h_ => h_.1))) (fun k_ hk_ => (⟨hk_, hk_.2.2.2⟩ : _ ∧ k_ ≠ g))) hk (fun _ h => h.2)) (fun _ h => h.1)); have n4_ := Aside0.mk (KeepBut.trans (by repeat ((with_reducible first | exact HK.out | refine keep_far ?_ GW271.out _))) hk (.inl rfl)); have n5_ := Aside0.mk (hb); have n6_ := Aside0.mk (hi); clear BK270 BK271 HO419 HO432 HK HB HI0; have BK270 := n0_; have BK271 := n1_; have HO419 := n2_; have HO432 := n3_; have HK := n4_; have HB := n5_; have HI0 := n6_; clear n0_ n1_ n2_ n3_ n4_ n5_ n6_ hb hk hi) | ((with_reducible refine gate_callee (f := 40) rfl ?_); refine goesL_ (some 60) rfl rfl Try.func40 (by kernel_rfl) rfl #[.pointer (some ⟨g, 0, none⟩)] rfl (by (simp only [List.map_toArray, List.map_cons, List.map_nil]); rfl) ?_; (with_reducible refine (expr_parser_next.calls k g s0_0 t454 t455 t456 t457 t458 t459 t460 t461 t462 t463 t464 t465 t466 t467 t468 t469 t470 t471 t472 t473 w0 _ HI0.out HB.out A115.out).mono ?_); rintro e w134 ⟨rfl, hi, hb, hk⟩; refine ⟨_, rfl, ?_⟩; have n0_ := Aside0.mk (KeepBut.blk hk BK270.out NB270_0.out (by simp)); have n1_ := Aside0.mk (KeepBut.blk hk BK271.out NB271_0.out (by simp)); have n2_ := Aside0.mk (Kd.V_mono (Kd.V_keep (Kd.V_mono (ok := fun k_ => ((((w.heap.size ≤ k_)) ∧ (k_ ≠ gb270 ∧ (k_ ≠ gb271 ∧ k_ ≠ g))) ∧ some k_ ≠ (.slice Ao130 y430.length co130 : Value).ownBlock)) HO419.out (fun k_ hk_ => (⟨hk_, hk_.1.2.2.2⟩ : _ ∧ k_ ≠ g))) hk (fun _ h => h.2)) (fun _ h => h.1)); have n3_ := Aside0.mk (Kd.N_mono (Kd.N_keep (Kd.N_mono (ok := fun k_ => (((w.heap.size ≤ k_)) ∧ (k_ ≠ gb270 ∧ (k_ ≠ gb271 ∧ k_ ≠ g)))) HO432.out (fun k_ hk_ => (⟨hk_, hk_.2.2.2⟩ : _ ∧ k_ ≠ g))) hk (fun _ h => h.2)) (fun _ h => h.1)); have n4_ := Aside0.mk (KeepBut.trans HK.out hk (.inl rfl)); have n5_ := Aside0.mk (hb); have n6_ := Aside0.mk (hi); clear BK270 BK271 HO419 HO432 HK HB HI0; have BK270 := n0_; have BK271 := n1_; have HO419 := n2_; have HO432 := n3_; have HK := n4_; have HB := n5_; have HI0 := n6_; clear n0_ n1_ n2_ n3_ n4_ n5_ n6_ hb hk hi; obtain ⟨hcz135_0, hcz135_1, hcz135_2, hcz135_3, hfz135_0, hfz135_1, hfz135_2, hfz135_3⟩ := Go.Proofs.YtodbnnfiadcbaaaH.cells4 BK271.out; have hnb136 := NB270_0.out; have hnc136 := NB0_270.out; obtain ⟨hcz137_0, hcz137_1, hcz137_2, hcz137_3, hfz137_0, hfz137_1, hfz137_2, hfz137_3⟩ := Go.Proofs.YtodbnnfiadcbaaaH.cells4 BK270.out))
              refine bodyPost_ret (results_cell_row rfl _ _ gb270 28 #[.int .i64 4, .int .i64 t403, .int .i64 0, .slice Ao130 y430.length co130] (0, 0) _ rfl (by refine blk_put (cs := #[.int .i64 4, .int .i64 t403, .int .i64 0, .slice none 0 0]) ?_ 3 _ rfl; refine blk_put (cs := #[.int .i64 4, .int .i64 t403, .int .i64 0, .slice none 0 0]) ?_ 2 _ rfl; refine blk_put (cs := #[.int .i64 4, .int .i64 0, .int .i64 0, .slice none 0 0]) ?_ 1 _ rfl; refine blk_put (cs := #[.int .i64 0, .int .i64 0, .int .i64 0, .slice none 0 0]) ?_ 0 _ rfl; exact BK270.out) Try.underlying28 rfl (by kernel_rfl)) rfl ?_
              exact ⟨_, by rfl, Kd.N_V (by exact Kd.N_mono (Kd.N_far (p := ⟨gb270, 3, none⟩) (Kd.N_far (p := ⟨gb270, 2, none⟩) (Kd.N_far (p := ⟨gb270, 1, none⟩) (Kd.N_far (p := ⟨gb270, 0, none⟩) (Kd.N_mono HO432.out (fun k_ hk => (⟨hk, hk.2.1⟩ : _ ∧ k_ ≠ gb270))) (fun _ hk => hk.2) (.int .i64 4)) (fun _ hk => hk.2) (.int .i64 t403)) (fun _ hk => hk.2) (.int .i64 0)) (fun _ hk => hk.2) (.slice Ao130 y430.length co130)) (fun _ hk => hk.1.1)), by repeat ((with_reducible first | exact HI0.out | apply IsS75.far_ (hne := NB0_270.out))), by repeat ((with_reducible first | exact HB.out | refine below_set ?_ GE270.out)), by repeat ((with_reducible first | exact HK.out | refine keep_far ?_ GW270.out _))⟩
          · rw [if_neg c85] at H
            have c85b0 : (t318 == 5) = false := beq_eq_false_iff_ne.mpr c85
            have c85b1 : (t318 != 5) = true := bne_iff_ne.mpr c85
            replace H := Option.bind_eq_some_iff.mp H
            obtain ⟨⟨t474, t475, t476, t477, t478, t479, t480, t481, t482, t483⟩, A1380, H⟩ := H
            try dsimp only at H
            have A138 := Aside0.mk A1380
            clear A1380
            replace H := Option.bind_eq_some_iff.mp H
            obtain ⟨⟨t484, t485, t486, t487, t488, t489, t490, t491, t492, t493⟩, A1390, H⟩ := H
            try dsimp only at H
            have A139 := Aside0.mk A1390
            clear A1390
            simp only [Option.some.injEq, Prod.mk.injEq] at H
            obtain ⟨rfl, rfl, rfl, rfl, rfl, rfl, rfl, rfl, rfl, rfl, rfl, rfl, rfl, rfl⟩ := H
            go_enter Try.func86, Try.ntmps86
            go_wp2_with (first | ((with_reducible refine gate_dst (N := 2) rfl ?_); refine box_event ?hg (N := 2) ?hd (cs := #[.int .i64 0, .int .i64 0, .int .i64 0, .slice none 0 0]) (t := 28) ?hr ?_; (case hd => rfl); (case hg => rfl); (case hr => (go_simp; done)); intro gb270 hg w140 hbox hb; have n0_ := Aside0.mk (IsS75.below HI0.out hb); have n1_ := Aside0.mk (KeepBut.trans HK.out (KeepBut.of_below hb g none) (.inl rfl)); have n2_ := Aside0.mk (below_step HB.out hb); have n3_ := Aside0.mk (hbox); have n4_ := Aside0.mk ((by rw [hg]; exact (keep_size HK.out) : w.heap.size ≤ gb270)); have n5_ := Aside0.mk ((Nat.le_trans HW0.out (by rw [hg]; exact (keep_size HK.out) : w.heap.size ≤ gb270) : w0.heap.size ≤ gb270)); have n6_ := Aside0.mk ((by rw [hg]; exact Nat.ne_of_lt (IsS75.lt HI0.out) : g ≠ gb270)); have n7_ := Aside0.mk ((by rw [hg]; exact Nat.ne_of_gt (IsS75.lt HI0.out) : gb270 ≠ g)); clear HI0 HK HB; have HI0 := n0_; have HK := n1_; have HB := n2_; have BK270 := n3_; have GW270 := n4_; have GE270 := n5_; have NB0_270 := n6_; have NB270_0 := n7_; clear n0_ n1_ n2_ n3_ n4_ n5_ n6_ n7_ hb hbox hg) | ((with_reducible refine gate_dst (N := 3) rfl ?_); refine box_event ?hg (N := 3) ?hd (cs := #[.int .i64 0, .int .i64 0, .int .i64 0, .slice none 0 0]) (t := 28) ?hr ?_; (case hd => rfl); (case hg => rfl); (case hr => (go_simp; done)); intro gb271 hg w141 hbox hb; have n0_ := Aside0.mk (IsS75.below HI0.out hb); have n1_ := Aside0.mk (blk_below BK270.out hb); have n2_ := Aside0.mk (KeepBut.trans HK.out (KeepBut.of_below hb g none) (.inl rfl)); have n3_ := Aside0.mk (below_step HB.out hb); have n4_ := Aside0.mk (hbox); have n5_ := Aside0.mk ((by rw [hg]; exact (keep_size HK.out) : w.heap.size ≤ gb271)); have n6_ := Aside0.mk ((Nat.le_trans HW0.out (by rw [hg]; exact (keep_size HK.out) : w.heap.size ≤ gb271) : w0.heap.size ≤ gb271)); have n7_ := Aside0.mk ((by rw [hg]; exact Nat.ne_of_lt (blk_lt BK270.out) : gb270 ≠ gb271)); have n8_ := Aside0.mk ((by rw [hg]; exact Nat.ne_of_gt (blk_lt BK270.out) : gb271 ≠ gb270)); have n9_ := Aside0.mk ((by rw [hg]; exact Nat.ne_of_lt (IsS75.lt HI0.out) : g ≠ gb271)); have n10_ := Aside0.mk ((by rw [hg]; exact Nat.ne_of_gt (IsS75.lt HI0.out) : gb271 ≠ g)); clear HI0 BK270 HK HB; have HI0 := n0_; have BK270 := n1_; have HK := n2_; have HB := n3_; have BK271 := n4_; have GW271 := n5_; have GE271 := n6_; have NB270_271 := n7_; have NB271_270 := n8_; have NB0_271 := n9_; have NB271_0 := n10_; clear n0_ n1_ n2_ n3_ n4_ n5_ n6_ n7_ n8_ n9_ n10_ hb hbox hg) | ((with_reducible refine gate_callee (f := 62) rfl ?_); refine goesL_ (some 8) rfl rfl Try.func62 (by kernel_rfl) rfl #[.pointer (some ⟨g, 0, none⟩), .int .u8 48] rfl (by (simp only [List.map_toArray, List.map_cons, List.map_nil]); rfl) ?_; (with_reducible refine (expr_parser_is.calls g s0_0 s0_1 s0_2 s0_3 s0_4 s0_5 s0_6 s0_7 s0_8 s0_9 s0_10 48 false t273 t274 t275 t276 t277 t278 t279 t280 t281 t282 w0 _ HI0.out HB.out A2.out).mono ?_); rintro e w142 ⟨rfl, hi, hb, hk⟩; refine ⟨_, rfl, ?_⟩; have n0_ := Aside0.mk (KeepBut.blk hk BK270.out NB270_0.out (by simp)); have n1_ := Aside0.mk (KeepBut.blk hk BK271.out NB271_0.out (by simp)); have n2_ := Aside0.mk (KeepBut.trans HK.out hk (.inl rfl)); have n3_ := Aside0.mk (hb); have n4_ := Aside0.mk (hi); clear BK270 BK271 HK HB HI0; have BK270 := n0_; have BK271 := n1_; have HK := n2_; have HB := n3_; have HI0 := n4_; clear n0_ n1_ n2_ n3_ n4_ hb hk hi) | ((with_reducible refine gate_callee (f := 62) rfl ?_); refine goesL_ (some 12) rfl rfl Try.func62 (by kernel_rfl) rfl #[.pointer (some ⟨g, 0, none⟩), .int .u8 49] rfl (by (simp only [List.map_toArray, List.map_cons, List.map_nil]); rfl) ?_; (with_reducible refine (expr_parser_is.calls g s0_0 t273 t274 t275 t276 t277 t278 t279 t280 t281 t282 49 false t294 t295 t296 t297 t298 t299 t300 t301 t302 t303 w0 _ HI0.out HB.out A15.out).mono ?_); rintro e w143 ⟨rfl, hi, hb, hk⟩; refine ⟨_, rfl, ?_⟩; have n0_ := Aside0.mk (KeepBut.blk hk BK270.out NB270_0.out (by simp)); have n1_ := Aside0.mk (KeepBut.blk hk BK271.out NB271_0.out (by simp)); have n2_ := Aside0.mk (KeepBut.trans HK.out hk (.inl rfl)); have n3_ := Aside0.mk (hb); have n4_ := Aside0.mk (hi); clear BK270 BK271 HK HB HI0; have BK270 := n0_; have BK271 := n1_; have HK := n2_; have HB := n3_; have HI0 := n4_; clear n0_ n1_ n2_ n3_ n4_ hb hk hi) | ((with_reducible refine gate_callee (f := 62) rfl ?_); refine goesL_ (some 16) rfl rfl Try.func62 (by kernel_rfl) rfl #[.pointer (some ⟨g, 0, none⟩), .int .u8 40] rfl (by (simp only [List.map_toArray, List.map_cons, List.map_nil]); rfl) ?_; (with_reducible refine (expr_parser_is.calls g s0_0 t294 t295 t296 t297 t298 t299 t300 t301 t302 t303 40 false t315 t316 t317 t318 t319 t320 t321 t322 t323 t324 w0 _ HI0.out HB.out A29.out).mono ?_); rintro e w144 ⟨rfl, hi, hb, hk⟩; refine ⟨_, rfl, ?_⟩; have n0_ := Aside0.mk (KeepBut.blk hk BK270.out NB270_0.out (by simp)); have n1_ := Aside0.mk (KeepBut.blk hk BK271.out NB271_0.out (by simp)); have n2_ := Aside0.mk (KeepBut.trans HK.out hk (.inl rfl)); have n3_ := Aside0.mk (hb); have n4_ := Aside0.mk (hi); clear BK270 BK271 HK HB HI0; have BK270 := n0_; have BK271 := n1_; have HK := n2_; have HB := n3_; have HI0 := n4_; clear n0_ n1_ n2_ n3_ n4_ hb hk hi; obtain ⟨ASz145_0, cSz145_0, HGz145, hgz145, HSz145_0, HDz145_0⟩ := HI0.out; obtain ⟨hcz145_0, hcz145_1, hcz145_2, hcz145_3, hcz145_4, hcz145_5, hcz145_6, hcz145_7, hcz145_8, hcz145_9, hcz145_10, -, hfz145_1, hfz145_2, hfz145_3, hfz145_4, hfz145_5, hfz145_6, hfz145_7, hfz145_8, hfz145_9, hfz145_10⟩ := Go.Proofs.YtodbnnfiadcbaaaH.cells11 HGz145; clear HGz145 hgz145) | ((with_reducible refine gate_callee (f := 42) rfl ?_); refine goesL_ (some 5) rfl rfl Try.func42 (by kernel_rfl) rfl #[.pointer (some ⟨g, 0, none⟩), .int .i64 1] rfl (by (simp only [List.map_toArray, List.map_cons, List.map_nil]); rfl) ?_; (with_reducible refine (expr_parser_wrong.calls g s0_0 t315 t316 t317 t318 t319 t320 t321 t322 t323 t324 1 t474 t475 t476 t477 t478 t479 t480 t481 t482 t483 w0 _ HI0.out HB.out A138.out).mono ?_); rintro e w146 ⟨rfl, hi, hb, hk⟩; refine ⟨_, rfl, ?_⟩; have n0_ := Aside0.mk (KeepBut.blk hk BK270.out NB270_0.out (by simp)); have n1_ := Aside0.mk (KeepBut.blk hk BK271.out NB271_0.out (by simp)); have n2_ := Aside0.mk (KeepBut.trans HK.out hk (.inl rfl)); have n3_ := Aside0.mk (hb); have n4_ := Aside0.mk (hi); clear BK270 BK271 HK HB HI0; have BK270 := n0_; have BK271 := n1_; have HK := n2_; have HB := n3_; have HI0 := n4_; clear n0_ n1_ n2_ n3_ n4_ hb hk hi) | ((with_reducible refine gate_callee (f := 40) rfl ?_); refine goesL_ (some 60) rfl rfl Try.func40 (by kernel_rfl) rfl #[.pointer (some ⟨g, 0, none⟩)] rfl (by (simp only [List.map_toArray, List.map_cons, List.map_nil]); rfl) ?_; (with_reducible refine (expr_parser_next.calls k g s0_0 t474 t475 t476 t477 t478 t479 t480 t481 t482 t483 t484 t485 t486 t487 t488 t489 t490 t491 t492 t493 w0 _ HI0.out HB.out A139.out).mono ?_); rintro e w147 ⟨rfl, hi, hb, hk⟩; refine ⟨_, rfl, ?_⟩; have n0_ := Aside0.mk (KeepBut.blk hk BK270.out NB270_0.out (by simp)); have n1_ := Aside0.mk (KeepBut.blk hk BK271.out NB271_0.out (by simp)); have n2_ := Aside0.mk (KeepBut.trans HK.out hk (.inl rfl)); have n3_ := Aside0.mk (hb); have n4_ := Aside0.mk (hi); clear BK270 BK271 HK HB HI0; have BK270 := n0_; have BK271 := n1_; have HK := n2_; have HB := n3_; have HI0 := n4_; clear n0_ n1_ n2_ n3_ n4_ hb hk hi; have hnb148 := NB271_270.out; have hnc148 := NB270_271.out; have hnb149 := NB271_0.out; have hnc149 := NB0_271.out; obtain ⟨hcz150_0, hcz150_1, hcz150_2, hcz150_3, hfz150_0, hfz150_1, hfz150_2, hfz150_3⟩ := Go.Proofs.YtodbnnfiadcbaaaH.cells4 BK271.out; have hnb151 := NB270_0.out; have hnc151 := NB0_270.out; obtain ⟨hcz152_0, hcz152_1, hcz152_2, hcz152_3, hfz152_0, hfz152_1, hfz152_2, hfz152_3⟩ := Go.Proofs.YtodbnnfiadcbaaaH.cells4 BK270.out))
            refine bodyPost_ret (results_cell_row rfl _ _ gb270 28 #[.int .i64 0, .int .i64 0, .int .i64 0, .slice none 0 0] (0, 0) _ rfl (by refine blk_put (cs := #[.int .i64 0, .int .i64 0, .int .i64 0, .slice none 0 0]) ?_ 3 _ rfl; refine blk_put (cs := #[.int .i64 0, .int .i64 0, .int .i64 0, .slice none 0 0]) ?_ 2 _ rfl; refine blk_put (cs := #[.int .i64 0, .int .i64 0, .int .i64 0, .slice none 0 0]) ?_ 1 _ rfl; refine blk_put (cs := #[.int .i64 0, .int .i64 0, .int .i64 0, .slice none 0 0]) ?_ 0 _ rfl; exact BK270.out) Try.underlying28 rfl (by kernel_rfl)) rfl ?_
            exact ⟨_, by rfl, (Kd.V_nil _ _ _ _ _), by repeat ((with_reducible first | exact HI0.out | apply IsS75.far_ (hne := NB0_270.out))), by repeat ((with_reducible first | exact HB.out | refine below_set ?_ GE270.out)), by repeat ((with_reducible first | exact HK.out | refine keep_far ?_ GW270.out _))⟩

end Go.Proofs.Ytodbnnfiadcbaaa.P
namespace Go.Proofs.Ytodbnnfiadcbaaa.P
open Go.RowKit Go.Proofs.YtodbnnfiadcbaaaW.PrintWords Go.Proofs.YtodbnnfiadcbaaaW.PrintLast Go.Proofs.YtodbnnfiadcbaaaW.PrintMore
attribute [local go_sem] max2_int min2_int max_two min_two max_three min_three max_four min_four   -- for this text's walks alone
set_option linter.unusedVariables false
set_option linter.unusedSimpArgs false

attribute [local go_sem] Exit.jump_normal_Ytodbnnfiadcbaaa Exit.jump_exit_Ytodbnnfiadcbaaa Exit.jump_ret_Ytodbnnfiadcbaaa Exit.jump_panic_Ytodbnnfiadcbaaa
/-! ### expr_parser_rep: function 80 -/
set_option maxHeartbeats 8000000 in
set_option maxRecDepth 100000 in
theorem expr_parser_rep.step (k : Nat) (ih41 : ∀ m, m < k → expr_parser_or.S m) (ih61 : ∀ m, m < k → expr_parser_cat.S m) (ih80 : ∀ m, m < k → expr_parser_rep.S m) (ih86 : ∀ m, m < k → expr_parser_atom.S m) (ih92 : ∀ m, m < k → expr_parser_within.S m) : ∀ (g : Nat) (s0_0 : List (S56)) (s0_1 : ByteArray) (s0_2 : Int) (s0_3 : Int) (s0_4 : Int) (s0_5 : ByteArray) (s0_6 : Int) (s0_7 : Int) (s0_8 : Int) (s0_9 : Int) (s0_10 : Int) (r1 : Int) (r2 : Int) (r3 : Int) (r4 : List (S28)) (r5 : ByteArray) (r6 : Int) (r7 : Int) (r8 : Int) (r9 : ByteArray) (r10 : Int) (r11 : Int) (r12 : Int) (r13 : Int) (r14 : Int) (w0 w : World) (hI : IsS75 w0 w g s0_0 s0_1 s0_2 s0_3 s0_4 s0_5 s0_6 s0_7 s0_8 s0_9 s0_10) (hB : Below w0.heap.size w0 w) (h : expr_parser_rep.f k s0_0 s0_1 s0_2 s0_3 s0_4 s0_5 s0_6 s0_7 s0_8 s0_9 s0_10 = some (r1, r2, r3, r4, r5, r6, r7, r8, r9, r10, r11, r12, r13, r14)),
    Calls Try.prog 80 #[.pointer (some ⟨g, 0, none⟩)] w fun e w' => ∃ v3_ : Value, e = .returned (.agg #[.int .i64 r1, .int .i64 r2, .int .i64 r3, v3_]) ∧ Kd.V k28 28 w' w.heap.size (fun k_ => (w.heap.size ≤ k_)) v3_ r4 ∧ IsS75 w0 w' g s0_0 r5 r6 r7 r8 r9 r10 r11 r12 r13 r14 ∧ Below w0.heap.size w0 w' ∧ KeepBut w w' g none := by
  intro g s0_0 s0_1 s0_2 s0_3 s0_4 s0_5 s0_6 s0_7 s0_8 s0_9 s0_10 r1 r2 r3 r4 r5 r6 r7 r8 r9 r10 r11 r12 r13 r14 w0 w hI hB h
  cases k with
  | zero => exact absurd h (by simp [expr_parser_rep.f])
  | succ k =>
  simp only [expr_parser_rep.f] at h
  have hu28 := Try.underlying28
  have HI0 := Aside0.mk hI
  have HK := Aside0.mk (KeepBut.refl w g none)
  have HL := Aside0.mk hB.size
  clear hI
  have HW0 := Aside0.mk hB.size
  have HB := Aside0.mk hB
  clear hB
  have H : ((expr_parser_atom.f k s0_0 s0_1 s0_2 s0_3 s0_4 s0_5 s0_6 s0_7 s0_8 s0_9 s0_10).bind fun bt495 => (expr_parser_rep.l0 k s0_0 bt495.2.2.2.2.1 bt495.2.2.2.2.2.1 bt495.2.2.2.2.2.2.1 bt495.2.2.2.2.2.2.2.1 bt495.2.2.2.2.2.2.2.2.1 bt495.2.2.2.2.2.2.2.2.2.1 bt495.2.2.2.2.2.2.2.2.2.2.1 bt495.2.2.2.2.2.2.2.2.2.2.2.1 bt495.2.2.2.2.2.2.2.2.2.2.2.2.1 bt495.2.2.2.2.2.2.2.2.2.2.2.2.2 bt495.1 bt495.2.1 bt495.2.2.1 bt495.2.2.2.1)) = some (r1, r2, r3, r4, r5, r6, r7, r8, r9, r10, r11, r12, r13, r14) := h
  clear h
  replace H := Option.bind_eq_some_iff.mp H
  obtain ⟨⟨t495, t496, t497, t498, t501, t502, t503, t504, t505, t506, t507, t508, t509, t510⟩, A20, H⟩ := H
  try dsimp only at H
  have A2 := Aside0.mk A20
  clear A20
  have H' := Aside0.mk H
  clear H
  go_enter Try.func80, Try.ntmps80
  go_wp2_with (((with_reducible refine gate_dst (N := 2) rfl ?_); refine box_event ?hg (N := 2) ?hd (cs := #[.int .i64 0, .int .i64 0, .int .i64 0, .slice none 0 0]) (t := 28) ?hr ?_; (case hd => rfl); (case hg => rfl); (case hr => (go_simp; done)); intro gb494 hg w3 hbox hb; have n0_ := Aside0.mk (IsS75.below HI0.out hb); have n1_ := Aside0.mk (KeepBut.trans HK.out (KeepBut.of_below hb g none) (.inl rfl)); have n2_ := Aside0.mk (below_step HB.out hb); have n3_ := Aside0.mk (hbox); have n4_ := Aside0.mk ((by rw [hg]; exact (keep_size HK.out) : w.heap.size ≤ gb494)); have n5_ := Aside0.mk ((Nat.le_trans HW0.out (by rw [hg]; exact (keep_size HK.out) : w.heap.size ≤ gb494) : w0.heap.size ≤ gb494)); have n6_ := Aside0.mk ((by rw [hg]; exact Nat.ne_of_lt (IsS75.lt HI0.out) : g ≠ gb494)); have n7_ := Aside0.mk ((by rw [hg]; exact Nat.ne_of_gt (IsS75.lt HI0.out) : gb494 ≠ g)); clear HI0 HK HB; have HI0 := n0_; have HK := n1_; have HB := n2_; have BK494 := n3_; have GW494 := n4_; have GE494 := n5_; have NB0_494 := n6_; have NB494_0 := n7_; clear n0_ n1_ n2_ n3_ n4_ n5_ n6_ n7_ hb hbox hg))
  refine wp_scope_ghost_Ytodbnnfiadcbaaa 0 (fun kq a' w' => ∃ (gb511 : Nat) (u1 u2 u3 u4 u5 u6 u7 u8 u9 u10 u11 u12 u13 u14 u15 u16 u17 u18 u19 u20 : Value), Aside0 (w.heap.size ≤ gb511) ∧ Aside0 (w0.heap.size ≤ gb511) ∧ Aside0 (gb494 ≠ gb511) ∧ Aside0 (gb511 ≠ gb494) ∧ Aside0 (g ≠ gb511) ∧ Aside0 (gb511 ≠ g) ∧ u2 = .pointer (some ⟨gb494, 0, none⟩) ∧ u3 = .pointer (some ⟨gb511, 0, none⟩) ∧ (∃ (x1001_1 : ByteArray) (x1002_1 : Int) (x1003_1 : Int) (x1004_1 : Int) (x1005_1 : ByteArray) (x1006_1 : Int) (x1007_1 : Int) (x1008_1 : Int) (x1009_1 : Int) (x1010_1 : Int) (x495000_1 : Int) (x495001_1 : Int) (x495002_1 : Int) (x512000_1 : Int) (x512001_1 : Int) (x512002_1 : Int) (x512003_1 : List (S28)) (u512003 : Value), Aside0 (expr_parser_rep.l0 kq s0_0 x1001_1 x1002_1 x1003_1 x1004_1 x1005_1 x1006_1 x1007_1 x1008_1 x1009_1 x1010_1 x512000_1 x512001_1 x512002_1 x512003_1 = some (r1, r2, r3, r4, r5, r6, r7, r8, r9, r10, r11, r12, r13, r14)) ∧ Aside0 (kq ≤ k) ∧ Aside0 (Kd.V k28 28 w' w.heap.size (fun k_ => (w.heap.size ≤ k_) ∧ k_ ≠ gb494 ∧ k_ ≠ gb511 ∧ k_ ≠ g) u512003 x512003_1) ∧ Aside0 (w'.heap[gb494]? = some (.cells #[.int .i64 x495000_1, .int .i64 x495001_1, .int .i64 x495002_1, (.slice none 0 0)] 28 (0, 0))) ∧ Aside0 (w'.heap[gb511]? = some (.cells #[.int .i64 x512000_1, .int .i64 x512001_1, .int .i64 x512002_1, u512003] 28 (0, 0))) ∧ Aside0 (IsS75 w0 w' g s0_0 x1001_1 x1002_1 x1003_1 x1004_1 x1005_1 x1006_1 x1007_1 x1008_1 x1009_1 x1010_1) ∧ Aside0 (KeepBut w w' g none) ∧ Aside0 (Below w0.heap.size w0 w')) ∧ a' = { tmps := #[.pointer (some ⟨g, 0, none⟩), u1, u2, u3, u4, u5, u6, u7, u8, u9, u10, u11, u12, u13, u14, u15, u16, u17, u18, u19, u20], defers := [] }) rfl ?round ?first
  case first =>
    intro hBs
    go_wp2_with (first | ((with_reducible refine gate_callee (f := 86) rfl ?_); refine goesL_ (some 5) rfl rfl Try.func86 (by kernel_rfl) rfl #[.pointer (some ⟨g, 0, none⟩)] rfl (by (simp only [List.map_toArray, List.map_cons, List.map_nil]); rfl) ?_; (with_reducible refine (ih86 k (by omega) g s0_0 s0_1 s0_2 s0_3 s0_4 s0_5 s0_6 s0_7 s0_8 s0_9 s0_10 t495 t496 t497 t498 t501 t502 t503 t504 t505 t506 t507 t508 t509 t510 w0 _ HI0.out HB.out A2.out).mono ?_); rintro e w4 ⟨v499, rfl, ho0, hi, hb, hk⟩; refine ⟨_, rfl, ?_⟩; have n0_ := Aside0.mk (KeepBut.blk hk BK494.out NB494_0.out (by simp)); have n1_ := Aside0.mk (Kd.V_lower (Kd.V_mono (ok' := fun k_ => (w.heap.size ≤ k_) ∧ k_ ≠ gb494 ∧ k_ ≠ g) ho0 (fun k_ hk_ => ⟨(Nat.le_trans (keep_size HK.out) hk_), (Kd.freshB BK494.out k_ hk_), (IsS75.fresh HI0.out k_ hk_)⟩)) (keep_size HK.out)); have n2_ := Aside0.mk (KeepBut.trans HK.out hk (.inl rfl)); have n3_ := Aside0.mk (hb); have n4_ := Aside0.mk (hi); clear BK494 HK HB HI0; have BK494 := n0_; have HO500 := n1_; have HK := n2_; have HB := n3_; have HI0 := n4_; clear n0_ n1_ n2_ n3_ n4_ hb hk hi ho0) | ((with_reducible refine gate_dst (N := 3) rfl ?_); refine box_event ?hg (N := 3) ?hd (cs := #[.int .i64 0, .int .i64 0, .int .i64 0, .slice none 0 0]) (t := 28) ?hr ?_; (case hd => rfl); (case hg => rfl); (case hr => (go_simp; done)); intro gb511 hg w5 hbox hb; have n0_ := Aside0.mk (Kd.V_below (Kd.V_elderB HO500.out gb511 (Nat.le_of_eq hg.symm)) hb); have n1_ := Aside0.mk (IsS75.below HI0.out hb); have n2_ := Aside0.mk (blk_below BK494.out hb); have n3_ := Aside0.mk (KeepBut.trans HK.out (KeepBut.of_below hb g none) (.inl rfl)); have n4_ := Aside0.mk (below_step HB.out hb); have n5_ := Aside0.mk (hbox); have n6_ := Aside0.mk ((by rw [hg]; exact (keep_size HK.out) : w.heap.size ≤ gb511)); have n7_ := Aside0.mk ((Nat.le_trans HW0.out (by rw [hg]; exact (keep_size HK.out) : w.heap.size ≤ gb511) : w0.heap.size ≤ gb511)); have n8_ := Aside0.mk ((by rw [hg]; exact Nat.ne_of_lt (blk_lt BK494.out) : gb494 ≠ gb511)); have n9_ := Aside0.mk ((by rw [hg]; exact Nat.ne_of_gt (blk_lt BK494.out) : gb511 ≠ gb494)); have n10_ := Aside0.mk ((by rw [hg]; exact Nat.ne_of_lt (IsS75.lt HI0.out) : g ≠ gb511)); have n11_ := Aside0.mk ((by rw [hg]; exact Nat.ne_of_gt (IsS75.lt HI0.out) : gb511 ≠ g)); clear HO500 HI0 BK494 HK HB; have HO500 := n0_; have HI0 := n1_; have BK494 := n2_; have HK := n3_; have HB := n4_; have BK511 := n5_; have GW511 := n6_; have GE511 := n7_; have NB494_511 := n8_; have NB511_494 := n9_; have NB0_511 := n10_; have NB511_0 := n11_; clear n0_ n1_ n2_ n3_ n4_ n5_ n6_ n7_ n8_ n9_ n10_ n11_ hb hbox hg; have hnb6 := NB511_494.out; have hnc6 := NB494_511.out; have hnb7 := NB511_0.out; have hnc7 := NB0_511.out; obtain ⟨hcz8_0, hcz8_1, hcz8_2, hcz8_3, hfz8_0, hfz8_1, hfz8_2, hfz8_3⟩ := Go.Proofs.YtodbnnfiadcbaaaH.cells4 BK511.out; obtain ⟨Ao9, co9, eo9⟩ := Kd.V_slice HO500.out; subst eo9))
    go_step3
    go_step
    go_step
    refine hBs.out k _ _ ?_
    clear hBs
    (repeat apply Exists.intro)
    refine ⟨GW511, GE511, NB494_511, NB511_494, NB0_511, NB511_0, rfl, rfl, ?_, rfl⟩
    exact ⟨(t501), (t502), (t503), (t504), (t505), (t506), (t507), (t508), (t509), (t510), (0), (0), (0), (t495), (t496), (t497), (t498), (.slice Ao9 t498.length co9), H', ⟨Nat.le_refl _⟩, ⟨by exact Kd.V_mono (Kd.V_far (p := ⟨gb511, 3, none⟩) (Kd.V_far (p := ⟨gb511, 2, none⟩) (Kd.V_far (p := ⟨gb511, 1, none⟩) (Kd.V_far (p := ⟨gb511, 0, none⟩) (Kd.V_mono HO500.out (fun k_ hk => (⟨hk, hk.2⟩ : _ ∧ k_ ≠ gb511))) (fun _ hk => hk.2) (.int .i64 t495)) (fun _ hk => hk.2) (.int .i64 t496)) (fun _ hk => hk.2) (.int .i64 t497)) (fun _ hk => hk.2) (.slice Ao9 t498.length co9)) (fun _ hk => ⟨hk.1.1.1, ⟨hk.1.1.2.1, ⟨hk.1.2, hk.1.1.2.2⟩⟩⟩)⟩, ⟨by refine blk_far ?_ NB494_511.out _; refine blk_far ?_ NB494_511.out _; refine blk_far ?_ NB494_511.out _; refine blk_far ?_ NB494_511.out _; exact BK494.out⟩, ⟨by refine blk_put (cs := #[.int .i64 t495, .int .i64 t496, .int .i64 t497, .slice none 0 0]) ?_ 3 _ rfl; refine blk_put (cs := #[.int .i64 t495, .int .i64 t496, .int .i64 0, .slice none 0 0]) ?_ 2 _ rfl; refine blk_put (cs := #[.int .i64 t495, .int .i64 0, .int .i64 0, .slice none 0 0]) ?_ 1 _ rfl; refine blk_put (cs := #[.int .i64 0, .int .i64 0, .int .i64 0, .slice none 0 0]) ?_ 0 _ rfl; exact BK511.out⟩, ⟨by repeat ((with_reducible first | exact HI0.out | apply IsS75.far_ (hne := NB0_511.out)))⟩, ⟨by repeat ((with_reducible first | exact HK.out | refine keep_far ?_ GW511.out _))⟩, ⟨by repeat ((with_reducible first | exact HB.out | refine below_set ?_ GE511.out))⟩⟩
  case round =>
    intro gk _ wr hinv
    obtain ⟨gb511, u1, u2, u3, u4, u5, u6, u7, u8, u9, u10, u11, u12, u13, u14, u15, u16, u17, u18, u19, u20, GW511, GE511, NB494_511, NB511_494, NB0_511, NB511_0, rfl, rfl, hrel, ha⟩ := hinv
    subst ha
    intro _ _ _ _
    clear H'
    obtain ⟨x1001_1, x1002_1, x1003_1, x1004_1, x1005_1, x1006_1, x1007_1, x1008_1, x1009_1, x1010_1, x495000_1, x495001_1, x495002_1, x512000_1, x512001_1, x512002_1, x512003_1, u512003, HA, HK1, HO_512003, BK494, BK511, HI0, HK, HB⟩ := hrel
    cases gk with
    | zero => exact absurd HA.out (by simp [expr_parser_rep.l0])
    | succ k1 =>
      have H := HA.out
      clear HA
      simp only [expr_parser_rep.l0] at H
      by_cases c10 : x1009_1 = 0
      · rw [if_pos c10] at H
        have c10b0 : (x1009_1 == 0) = true := beq_iff_eq.mpr c10
        have c10b1 : (x1009_1 != 0) = false := bne_eq_false_iff_eq.mpr c10
        clear c10
        replace H := Option.bind_eq_some_iff.mp H
        obtain ⟨⟨t512, t513, t514, t515, t516, t517, t518, t519, t520, t521, t522⟩, A110, H⟩ := H
        try dsimp only at H
        have A11 := Aside0.mk A110
        clear A110
        by_cases c12 : t512 = true
        · subst c12
          rw [if_pos rfl] at H
          obtain ⟨y523, hy523⟩ : ∃ y_ : List (S28), y_ = (([(⟨x512000_1, x512001_1, x512002_1, x512003_1⟩ : S28)] : List (S28))) := ⟨_, rfl⟩
          replace H : ((expr_parser_next.f k1 s0_0 t513 t514 t515 t516 t517 t518 t519 t520 t521 t522).bind fun bt526 => (expr_parser_rep.l0 k1 s0_0 bt526.1 bt526.2.1 bt526.2.2.1 bt526.2.2.2.1 bt526.2.2.2.2.1 bt526.2.2.2.2.2.1 bt526.2.2.2.2.2.2.1 bt526.2.2.2.2.2.2.2.1 bt526.2.2.2.2.2.2.2.2.1 bt526.2.2.2.2.2.2.2.2.2 7 0 0 y523)) = some (r1, r2, r3, r4, r5, r6, r7, r8, r9, r10, r11, r12, r13, r14) := by (rw [hy523]; with_reducible exact H)
          have Ny523 := Aside0.mk hy523
          clear hy523
          replace H := Option.bind_eq_some_iff.mp H
          obtain ⟨⟨t526, t527, t528, t529, t530, t531, t532, t533, t534, t535⟩, A130, H⟩ := H
          try dsimp only at H
          have A13 := Aside0.mk A130
          clear A130
          have H' := Aside0.mk H
          clear H
          obtain ⟨ASz14_0, cSz14_0, HGz14, hgz14, HSz14_0, HDz14_0⟩ := HI0.out
          obtain ⟨hcz14_0, hcz14_1, hcz14_2, hcz14_3, hcz14_4, hcz14_5, hcz14_6, hcz14_7, hcz14_8, hcz14_9, hcz14_10, -, hfz14_1, hfz14_2, hfz14_3, hfz14_4, hfz14_5, hfz14_6, hfz14_7, hfz14_8, hfz14_9, hfz14_10⟩ := Go.Proofs.YtodbnnfiadcbaaaH.cells11 HGz14
          clear HGz14 hgz14
          go_wp2_with (first | (go_at_call 62; (with_reducible refine (expr_parser_is.calls g s0_0 x1001_1 x1002_1 x1003_1 x1004_1 x1005_1 x1006_1 x1007_1 x1008_1 x1009_1 x1010_1 42 true t513 t514 t515 t516 t517 t518 t519 t520 t521 t522 w0 _ HI0.out HB.out A11.out).mono ?_); rintro e w15 ⟨rfl, hi, hb, hk⟩; have n0_ := Aside0.mk (Kd.V_mono (Kd.V_keep (Kd.V_mono (ok := fun k_ => (((w.heap.size ≤ k_)) ∧ (k_ ≠ gb494 ∧ (k_ ≠ gb511 ∧ k_ ≠ g)))) HO_512003.out (fun k_ hk_ => (⟨hk_, hk_.2.2.2⟩ : _ ∧ k_ ≠ g))) hk (fun _ h => h.2)) (fun _ h => h.1)); have n1_ := Aside0.mk (KeepBut.blk hk BK494.out NB494_0.out (by simp)); have n2_ := Aside0.mk (KeepBut.blk hk BK511.out NB511_0.out (by simp)); have n3_ := Aside0.mk (KeepBut.trans HK.out hk (.inl rfl)); have n4_ := Aside0.mk (hb); have n5_ := Aside0.mk (hi); clear HO_512003 BK494 BK511 HK HB HI0; have HO_512003 := n0_; have BK494 := n1_; have BK511 := n2_; have HK := n3_; have HB := n4_; have HI0 := n5_; clear n0_ n1_ n2_ n3_ n4_ n5_ hb hk hi; have hnb16 := NB511_494.out; have hnc16 := NB494_511.out; have hnb17 := NB511_0.out; have hnc17 := NB0_511.out; obtain ⟨hcz18_0, hcz18_1, hcz18_2, hcz18_3, hfz18_0, hfz18_1, hfz18_2, hfz18_3⟩ := Go.Proofs.YtodbnnfiadcbaaaH.cells4 BK511.out; obtain ⟨Ao19, co19, eo19⟩ := Kd.V_slice HO_512003.out; subst eo19) | ((with_reducible refine gate_dst (N := 16) rfl ?_); refine Kd.N_lit k28 _ 28 ?hg (N' := 16) ?hd (xs := ([(⟨x512000_1, x512001_1, x512002_1, x512003_1⟩ : S28)] : List (S28))) (inner := [.int .i64 x512000_1, .int .i64 x512001_1, .int .i64 x512002_1, .slice Ao19 x512003_1.length co19]) (ok := (fun k_ => (w.heap.size ≤ k_) ∧ k_ ≠ gb494 ∧ k_ ≠ gb511 ∧ k_ ≠ g)) (okp := (fun k_ => (w.heap.size ≤ k_) ∧ k_ ≠ gb494 ∧ k_ ≠ gb511 ∧ k_ ≠ g)) ?hr ?hp (fun _ hk => hk) ((show ∀ k_, w15.heap.size ≤ k_ → (fun k_ => (w.heap.size ≤ k_) ∧ k_ ≠ gb494 ∧ k_ ≠ gb511 ∧ k_ ≠ g) k_ from fun k_ hk => ⟨(Nat.le_trans (keep_size HK.out) hk), Kd.freshB BK494.out k_ hk, Kd.freshB BK511.out k_ hk, IsS75.fresh HI0.out k_ hk⟩) _ (Nat.le_refl _)) (Below.refl _ _) (Nat.le_refl _) (by simp) ?_; (case hd => rfl); (case hg => rfl); (case hr => (go_simp; done)); (case hp => exact (Reps.c4 (show Kd.FK k28 _ _ (⟨x512000_1, x512001_1, x512002_1, x512003_1⟩ : S28) [.int .i64 x512000_1, .int .i64 x512001_1, .int .i64 x512002_1, .slice Ao19 x512003_1.length co19] from (k28_mkF _ _ (⟨x512000_1, x512001_1, x512002_1, x512003_1⟩ : S28) (Kd.V_reads' (Kd.V_mono (ok' := (fun k_ => (w.heap.size ≤ k_) ∧ k_ ≠ gb494 ∧ k_ ≠ gb511 ∧ k_ ≠ g)) (HO_512003.out) (fun k_ hk => ⟨hk.1, ⟨hk.2.1, ⟨hk.2.2.1, hk.2.2.2⟩⟩⟩))).2.1 (Kd.V_F (Kd.V_mono (ok' := (fun k_ => (w.heap.size ≤ k_) ∧ k_ ≠ gb494 ∧ k_ ≠ gb511 ∧ k_ ≠ g)) (HO_512003.out) (fun k_ hk => ⟨hk.1, ⟨hk.2.1, ⟨hk.2.2.1, hk.2.2.2⟩⟩⟩))))) (Reps.none _ _))); intro v524 w20 ho21 hb hg_ hnew_; clear hg_ hnew_; (rw [← Ny523.out] at ho21); have n0_ := Aside0.mk (Kd.V_elder' HO_512003.out (Kd.N_base ho21) hb); have n1_ := Aside0.mk (Kd.N_lower ho21 (keep_size HK.out)); have n2_ := Aside0.mk (blk_below BK494.out hb); have n3_ := Aside0.mk (blk_below BK511.out hb); have n4_ := Aside0.mk (IsS75.below HI0.out hb); have n5_ := Aside0.mk (KeepBut.trans HK.out (KeepBut.of_below hb g none) (.inl rfl)); have n6_ := Aside0.mk (below_step HB.out hb); clear HO_512003 BK494 BK511 HI0 HK HB; have HO_512003 := n0_; have HO525 := n1_; have BK494 := n2_; have BK511 := n3_; have HI0 := n4_; have HK := n5_; have HB := n6_; clear n0_ n1_ n2_ n3_ n4_ n5_ n6_ hb ho21; obtain ⟨Ao22, co22, eo22⟩ := Kd.N_slice HO525.out; subst eo22; obtain ⟨hcz23_0, hcz23_1, hcz23_2, hcz23_3, hfz23_0, hfz23_1, hfz23_2, hfz23_3⟩ := Go.Proofs.YtodbnnfiadcbaaaH.cells4 BK511.out) | ((with_reducible refine gate_callee (f := 40) rfl ?_); refine goesL_ (some 19) rfl rfl Try.func40 (by kernel_rfl) rfl #[.pointer (some ⟨g, 0, none⟩)] rfl (by (simp only [List.map_toArray, List.map_cons, List.map_nil]); rfl) ?_; (with_reducible refine (expr_parser_next.calls k1 g s0_0 t513 t514 t515 t516 t517 t518 t519 t520 t521 t522 t526 t527 t528 t529 t530 t531 t532 t533 t534 t535 w0 _ ?side1 ?side2 A13.out).mono ?_); (case side1 => repeat ((with_reducible first | exact HI0.out | apply IsS75.far_ (hne := NB0_511.out)))); (case side2 => repeat ((with_reducible first | exact HB.out | refine below_set ?_ GE511.out))); rintro e w24 ⟨rfl, hi, hb, hk⟩; refine ⟨_, rfl, ?_⟩; have n0_ := Aside0.mk (Kd.V_mono (Kd.V_keep (Kd.V_mono (ok := fun k_ => ((((w.heap.size ≤ k_)) ∧ (k_ ≠ gb494 ∧ (k_ ≠ gb511 ∧ k_ ≠ g))) ∧ some k_ ≠ (.slice Ao22 y523.length co22 : Value).ownBlock)) (by exact (Kd.V_mono (Kd.V_far (p := ⟨gb511, 3, none⟩) (Kd.V_far (p := ⟨gb511, 2, none⟩) (Kd.V_far (p := ⟨gb511, 1, none⟩) (Kd.V_far (p := ⟨gb511, 0, none⟩) (Kd.V_mono HO_512003.out (fun k_ hk => (⟨hk, hk.1.2.2.1⟩ : _ ∧ k_ ≠ gb511))) (fun _ hk => hk.2) (.int .i64 7)) (fun _ hk => hk.2) (.int .i64 0)) (fun _ hk => hk.2) (.int .i64 0)) (fun _ hk => hk.2) (.slice Ao22 y523.length co22)) (fun _ h_ => h_.1))) (fun k_ hk_ => (⟨hk_, hk_.1.2.2.2⟩ : _ ∧ k_ ≠ g))) hk (fun _ h => h.2)) (fun _ h => h.1)); have n1_ := Aside0.mk (KeepBut.blk hk (g' := gb494) (o := .cells #[.int .i64 x495000_1, .int .i64 x495001_1, .int .i64 x495002_1, .slice none 0 0] 28 (0, 0)) (by refine blk_far ?_ NB494_511.out _; refine blk_far ?_ NB494_511.out _; refine blk_far ?_ NB494_511.out _; refine blk_far ?_ NB494_511.out _; exact BK494.out) NB494_0.out (by simp)); have n2_ := Aside0.mk (KeepBut.blk hk (g' := gb511) (o := .cells #[.int .i64 7, .int .i64 0, .int .i64 0, .slice Ao22 y523.length co22] 28 (0, 0)) (by refine blk_put (cs := #[.int .i64 7, .int .i64 0, .int .i64 0, .slice Ao19 x512003_1.length co19]) ?_ 3 _ rfl; refine blk_put (cs := #[.int .i64 7, .int .i64 0, .int .i64 x512002_1, .slice Ao19 x512003_1.length co19]) ?_ 2 _ rfl; refine blk_put (cs := #[.int .i64 7, .int .i64 x512001_1, .int .i64 x512002_1, .slice Ao19 x512003_1.length co19]) ?_ 1 _ rfl; refine blk_put (cs := #[.int .i64 x512000_1, .int .i64 x512001_1, .int .i64 x512002_1, .slice Ao19 x512003_1.length co19]) ?_ 0 _ rfl; exact BK511.out) NB511_0.out (by simp)); have n3_ := Aside0.mk (Kd.N_mono (Kd.N_keep (Kd.N_mono (ok := fun k_ => (((w.heap.size ≤ k_)) ∧ (k_ ≠ gb494 ∧ (k_ ≠ gb511 ∧ k_ ≠ g)))) (by exact (Kd.N_mono (Kd.N_far (p := ⟨gb511, 3, none⟩) (Kd.N_far (p := ⟨gb511, 2, none⟩) (Kd.N_far (p := ⟨gb511, 1, none⟩) (Kd.N_far (p := ⟨gb511, 0, none⟩) (Kd.N_mono HO525.out (fun k_ hk => (⟨hk, hk.2.2.1⟩ : _ ∧ k_ ≠ gb511))) (fun _ hk => hk.2) (.int .i64 7)) (fun _ hk => hk.2) (.int .i64 0)) (fun _ hk => hk.2) (.int .i64 0)) (fun _ hk => hk.2) (.slice Ao22 y523.length co22)) (fun _ h_ => h_.1))) (fun k_ hk_ => (⟨hk_, hk_.2.2.2⟩ : _ ∧ k_ ≠ g))) hk (fun _ h => h.2)) (fun _ h => h.1)); have n4_ := Aside0.mk (KeepBut.trans (by repeat ((with_reducible first | exact HK.out | refine keep_far ?_ GW511.out _))) hk (.inl rfl)); have n5_ := Aside0.mk (hb); have n6_ := Aside0.mk (hi); clear HO_512003 BK494 BK511 HO525 HK HB HI0; have HO_512003 := n0_; have BK494 := n1_; have BK511 := n2_; have HO525 := n3_; have HK := n4_; have HB := n5_; have HI0 := n6_; clear n0_ n1_ n2_ n3_ n4_ n5_ n6_ hb hk hi))
          go_step3
          (simp only [Act.put, List.setIfInBounds_toArray, List.set_cons_zero, List.set_cons_succ])
          (go_wp2)
          refine ⟨rfl, ?_⟩
          go_step
          refine Handed.intro k1 ?measure ?_
          rotate_left
          go_step
          (repeat apply Exists.intro)
          refine ⟨GW511, GE511, NB494_511, NB511_494, NB0_511, NB511_0, rfl, rfl, ?rel, rfl⟩
          case measure => have := HK1.out; omega
          case rel => exact ⟨(t526), (t527), (t528), (t529), (t530), (t531), (t532), (t533), (t534), (t535), (x495000_1), (x495001_1), (x495002_1), (7), (0), (0), (y523), (.slice Ao22 y523.length co22), H', ⟨by have := HK1.out; omega⟩, ⟨Kd.N_V HO525.out⟩, ⟨by exact BK494.out⟩, ⟨by exact BK511.out⟩, ⟨by with_reducible exact HI0.out⟩, ⟨by with_reducible exact HK.out⟩, ⟨by with_reducible exact HB.out⟩⟩
        · replace c12 := Bool.eq_false_iff.mpr c12
          subst c12
          rw [if_neg (show ¬ (false = true) by decide)] at H
          simp only [Option.some.injEq, Prod.mk.injEq] at H
          obtain ⟨rfl, rfl, rfl, rfl, rfl, rfl, rfl, rfl, rfl, rfl, rfl, rfl, rfl, rfl⟩ := H
          obtain ⟨ASz25_0, cSz25_0, HGz25, hgz25, HSz25_0, HDz25_0⟩ := HI0.out
          obtain ⟨hcz25_0, hcz25_1, hcz25_2, hcz25_3, hcz25_4, hcz25_5, hcz25_6, hcz25_7, hcz25_8, hcz25_9, hcz25_10, -, hfz25_1, hfz25_2, hfz25_3, hfz25_4, hfz25_5, hfz25_6, hfz25_7, hfz25_8, hfz25_9, hfz25_10⟩ := Go.Proofs.YtodbnnfiadcbaaaH.cells11 HGz25
          clear HGz25 hgz25
          go_wp2_with ((go_at_call 62; (with_reducible refine (expr_parser_is.calls g s0_0 x1001_1 x1002_1 x1003_1 x1004_1 x1005_1 x1006_1 x1007_1 x1008_1 x1009_1 x1010_1 42 false t513 t514 t515 t516 t517 t518 t519 t520 t521 t522 w0 _ HI0.out HB.out A11.out).mono ?_); rintro e w26 ⟨rfl, hi, hb, hk⟩; have n0_ := Aside0.mk (Kd.V_mono (Kd.V_keep (Kd.V_mono (ok := fun k_ => (((w.heap.size ≤ k_)) ∧ (k_ ≠ gb494 ∧ (k_ ≠ gb511 ∧ k_ ≠ g)))) HO_512003.out (fun k_ hk_ => (⟨hk_, hk_.2.2.2⟩ : _ ∧ k_ ≠ g))) hk (fun _ h => h.2)) (fun _ h => h.1)); have n1_ := Aside0.mk (KeepBut.blk hk BK494.out NB494_0.out (by simp)); have n2_ := Aside0.mk (KeepBut.blk hk BK511.out NB511_0.out (by simp)); have n3_ := Aside0.mk (KeepBut.trans HK.out hk (.inl rfl)); have n4_ := Aside0.mk (hb); have n5_ := Aside0.mk (hi); clear HO_512003 BK494 BK511 HK HB HI0; have HO_512003 := n0_; have BK494 := n1_; have BK511 := n2_; have HK := n3_; have HB := n4_; have HI0 := n5_; clear n0_ n1_ n2_ n3_ n4_ n5_ hb hk hi; have hnb27 := NB511_494.out; have hnc27 := NB494_511.out; have hnb28 := NB511_0.out; have hnc28 := NB0_511.out; obtain ⟨hcz29_0, hcz29_1, hcz29_2, hcz29_3, hfz29_0, hfz29_1, hfz29_2, hfz29_3⟩ := Go.Proofs.YtodbnnfiadcbaaaH.cells4 BK511.out; have hnb30 := NB494_0.out; have hnc30 := NB0_494.out; obtain ⟨hcz31_0, hcz31_1, hcz31_2, hcz31_3, hfz31_0, hfz31_1, hfz31_2, hfz31_3⟩ := Go.Proofs.YtodbnnfiadcbaaaH.cells4 BK494.out; obtain ⟨Ao32, co32, eo32⟩ := Kd.V_slice HO_512003.out; subst eo32))
          (rw [Exit.jump_ret_Ytodbnnfiadcbaaa])
          refine bodyPost_ret (results_cell_row rfl _ _ gb494 28 #[.int .i64 x512000_1, .int .i64 x512001_1, .int .i64 x512002_1, .slice Ao32 x512003_1.length co32] (0, 0) _ rfl (by refine blk_put (cs := #[.int .i64 x512000_1, .int .i64 x512001_1, .int .i64 x512002_1, .slice none 0 0]) ?_ 3 _ rfl; refine blk_put (cs := #[.int .i64 x512000_1, .int .i64 x512001_1, .int .i64 x495002_1, .slice none 0 0]) ?_ 2 _ rfl; refine blk_put (cs := #[.int .i64 x512000_1, .int .i64 x495001_1, .int .i64 x495002_1, .slice none 0 0]) ?_ 1 _ rfl; refine blk_put (cs := #[.int .i64 x495000_1, .int .i64 x495001_1, .int .i64 x495002_1, .slice none 0 0]) ?_ 0 _ rfl; exact BK494.out) Try.underlying28 rfl (by kernel_rfl)) rfl ?_
          exact ⟨_, by rfl, by exact Kd.V_mono (Kd.V_far (p := ⟨gb494, 3, none⟩) (Kd.V_far (p := ⟨gb494, 2, none⟩) (Kd.V_far (p := ⟨gb494, 1, none⟩) (Kd.V_far (p := ⟨gb494, 0, none⟩) (Kd.V_mono HO_512003.out (fun k_ hk => (⟨hk, hk.2.1⟩ : _ ∧ k_ ≠ gb494))) (fun _ hk => hk.2) (.int .i64 x512000_1)) (fun _ hk => hk.2) (.int .i64 x512001_1)) (fun _ hk => hk.2) (.int .i64 x512002_1)) (fun _ hk => hk.2) (.slice Ao32 x512003_1.length co32)) (fun _ hk => hk.1.1), by repeat ((with_reducible first | exact HI0.out | apply IsS75.far_ (hne := NB0_494.out))), by repeat ((with_reducible first | exact HB.out | refine below_set ?_ GE494.out)), by repeat ((with_reducible first | exact HK.out | refine keep_far ?_ GW494.out _))⟩
      · rw [if_neg c10] at H
        have c10b0 : (x1009_1 == 0) = false := beq_eq_false_iff_ne.mpr c10
        have c10b1 : (x1009_1 != 0) = true := bne_iff_ne.mpr c10
        simp only [Option.some.injEq, Prod.mk.injEq] at H
        obtain ⟨rfl, rfl, rfl, rfl, rfl, rfl, rfl, rfl, rfl, rfl, rfl, rfl, rfl, rfl⟩ := H
        obtain ⟨ASz33_0, cSz33_0, HGz33, hgz33, HSz33_0, HDz33_0⟩ := HI0.out
        obtain ⟨hcz33_0, hcz33_1, hcz33_2, hcz33_3, hcz33_4, hcz33_5, hcz33_6, hcz33_7, hcz33_8, hcz33_9, hcz33_10, -, hfz33_1, hfz33_2, hfz33_3, hfz33_4, hfz33_5, hfz33_6, hfz33_7, hfz33_8, hfz33_9, hfz33_10⟩ := Go.Proofs.YtodbnnfiadcbaaaH.cells11 HGz33
        clear HGz33 hgz33
        have hnb34 := NB511_494.out
        have hnc34 := NB494_511.out
        have hnb35 := NB511_0.out
        have hnc35 := NB0_511.out
        obtain ⟨hcz36_0, hcz36_1, hcz36_2, hcz36_3, hfz36_0, hfz36_1, hfz36_2, hfz36_3⟩ := Go.Proofs.YtodbnnfiadcbaaaH.cells4 BK511.out
        have hnb37 := NB494_0.out
        have hnc37 := NB0_494.out
        obtain ⟨hcz38_0, hcz38_1, hcz38_2, hcz38_3, hfz38_0, hfz38_1, hfz38_2, hfz38_3⟩ := Go.Proofs.YtodbnnfiadcbaaaH.cells4 BK494.out
        obtain ⟨Ao39, co39, eo39⟩ := Kd.V_slice HO_512003.out
        subst eo39
        go_wp2
        (rw [Exit.jump_ret_Ytodbnnfiadcbaaa])
        refine bodyPost_ret (results_cell_row rfl _ _ gb494 28 #[.int .i64 x512000_1, .int .i64 x512001_1, .int .i64 x512002_1, .slice Ao39 x512003_1.length co39] (0, 0) _ rfl (by refine blk_put (cs := #[.int .i64 x512000_1, .int .i64 x512001_1, .int .i64 x512002_1, .slice none 0 0]) ?_ 3 _ rfl; refine blk_put (cs := #[.int .i64 x512000_1, .int .i64 x512001_1, .int .i64 x495002_1, .slice none 0 0]) ?_ 2 _ rfl; refine blk_put (cs := #[.int .i64 x512000_1, .int .i64 x495001_1, .int .i64 x495002_1, .slice none 0 0]) ?_ 1 _ rfl; refine blk_put (cs := #[.int .i64 x495000_1, .int .i64 x495001_1, .int .i64 x495002_1, .slice none 0 0]) ?_ 0 _ rfl; exact BK494.out) Try.underlying28 rfl (by kernel_rfl)) rfl ?_
        exact ⟨_, by rfl, by exact Kd.V_mono (Kd.V_far (p := ⟨gb494, 3, none⟩) (Kd.V_far (p := ⟨gb494, 2, none⟩) (Kd.V_far (p := ⟨gb494, 1, none⟩) (Kd.V_far (p := ⟨gb494, 0, none⟩) (Kd.V_mono HO_512003.out (fun k_ hk => (⟨hk, hk.2.1⟩ : _ ∧ k_ ≠ gb494))) (fun _ hk => hk.2) (.int .i64 x512000_1)) (fun _ hk => hk.2) (.int .i64 x512001_1)) (fun _ hk => hk.2) (.int .i64 x512002_1)) (fun _ hk => hk.2) (.slice Ao39 x512003_1.length co39)) (fun _ hk => hk.1.1), by repeat ((with_reducible first | exact HI0.out | apply IsS75.far_ (hne := NB0_494.out))), by repeat ((with_reducible first | exact HB.out | refine below_set ?_ GE494.out)), by repeat ((with_reducible first | exact HK.out | refine keep_far ?_ GW494.out _))⟩

end Go.Proofs.Ytodbnnfiadcbaaa.P
namespace Go.Proofs.Ytodbnnfiadcbaaa.P
open Go.RowKit Go.Proofs.YtodbnnfiadcbaaaW.PrintWords Go.Proofs.YtodbnnfiadcbaaaW.PrintLast Go.Proofs.YtodbnnfiadcbaaaW.PrintMore
attribute [local go_sem] max2_int min2_int max_two min_two max_three min_three max_four min_four   -- for this text's walks alone
set_option linter.unusedVariables false
set_option linter.unusedSimpArgs false

/-! ### expr_parser_cat: function 61 -/
set_option maxHeartbeats 8000000 in
set_option maxRecDepth 100000 in
theorem expr_parser_cat.step (k : Nat) (ih41 : ∀ m, m < k → expr_parser_or.S m) (ih61 : ∀ m, m < k → expr_parser_cat.S m) (ih80 : ∀ m, m < k → expr_parser_rep.S m) (ih86 : ∀ m, m < k → expr_parser_atom.S m) (ih92 : ∀ m, m < k → expr_parser_within.S m) : ∀ (g : Nat) (s0_0 : List (S56)) (s0_1 : ByteArray) (s0_2 : Int) (s0_3 : Int) (s0_4 : Int) (s0_5 : ByteArray) (s0_6 : Int) (s0_7 : Int) (s0_8 : Int) (s0_9 : Int) (s0_10 : Int) (r1 : Int) (r2 : Int) (r3 : Int) (r4 : List (S28)) (r5 : ByteArray) (r6 : Int) (r7 : Int) (r8 : Int) (r9 : ByteArray) (r10 : Int) (r11 : Int) (r12 : Int) (r13 : Int) (r14 : Int) (w0 w : World) (hI : IsS75 w0 w g s0_0 s0_1 s0_2 s0_3 s0_4 s0_5 s0_6 s0_7 s0_8 s0_9 s0_10) (hB : Below w0.heap.size w0 w) (h : expr_parser_cat.f k s0_0 s0_1 s0_2 s0_3 s0_4 s0_5 s0_6 s0_7 s0_8 s0_9 s0_10 = some (r1, r2, r3, r4, r5, r6, r7, r8, r9, r10, r11, r12, r13, r14)),
    Calls Try.prog 61 #[.pointer (some ⟨g, 0, none⟩)] w fun e w' => ∃ v3_ : Value, e = .returned (.agg #[.int .i64 r1, .int .i64 r2, .int .i64 r3, v3_]) ∧ Kd.V k28 28 w' w.heap.size (fun k_ => (w.heap.size ≤ k_)) v3_ r4 ∧ IsS75 w0 w' g s0_0 r5 r6 r7 r8 r9 r10 r11 r12 r13 r14 ∧ Below w0.heap.size w0 w' ∧ KeepBut w w' g none := by
  intro g s0_0 s0_1 s0_2 s0_3 s0_4 s0_5 s0_6 s0_7 s0_8 s0_9 s0_10 r1 r2 r3 r4 r5 r6 r7 r8 r9 r10 r11 r12 r13 r14 w0 w hI hB h
  cases k with
  | zero => exact absurd h (by simp [expr_parser_cat.f])
  | succ k =>
  simp only [expr_parser_cat.f] at h
  have hu28 := Try.underlying28
  have HI0 := Aside0.mk hI
  have HK := Aside0.mk (KeepBut.refl w g none)
  have HL := Aside0.mk hB.size
  clear hI
  have HW0 := Aside0.mk hB.size
  have HB := Aside0.mk hB
  clear hB
  have H : ((expr_parser_rep.f k s0_0 s0_1 s0_2 s0_3 s0_4 s0_5 s0_6 s0_7 s0_8 s0_9 s0_10).bind fun bt537 => (expr_parser_cat.l0 k (([(⟨bt537.1, bt537.2.1, bt537.2.2.1, bt537.2.2.2.1⟩ : S28)] : List (S28))) s0_0 bt537.2.2.2.2.1 bt537.2.2.2.2.2.1 bt537.2.2.2.2.2.2.1 bt537.2.2.2.2.2.2.2.1 bt537.2.2.2.2.2.2.2.2.1 bt537.2.2.2.2.2.2.2.2.2.1 bt537.2.2.2.2.2.2.2.2.2.2.1 bt537.2.2.2.2.2.2.2.2.2.2.2.1 bt537.2.2.2.2.2.2.2.2.2.2.2.2.1 bt537.2.2.2.2.2.2.2.2.2.2.2.2.2)) = some (r1, r2, r3, r4, r5, r6, r7, r8, r9, r10, r11, r12, r13, r14) := h
  clear h
  replace H := Option.bind_eq_some_iff.mp H
  obtain ⟨⟨t537, t538, t539, t540, t543, t544, t545, t546, t547, t548, t549, t550, t551, t552⟩, A20, H⟩ := H
  try dsimp only at H
  have A2 := Aside0.mk A20
  clear A20
  obtain ⟨y553, hy553⟩ : ∃ y_ : List (S28), y_ = (([(⟨t537, t538, t539, t540⟩ : S28)] : List (S28))) := ⟨_, rfl⟩
  replace H : (expr_parser_cat.l0 k y553 s0_0 t543 t544 t545 t546 t547 t548 t549 t550 t551 t552) = some (r1, r2, r3, r4, r5, r6, r7, r8, r9, r10, r11, r12, r13, r14) := by (rw [hy553]; with_reducible exact H)
  have Ny553 := Aside0.mk hy553
  clear hy553
  have H' := Aside0.mk H
  clear H
  go_enter Try.func61, Try.ntmps61
  go_wp2_with (first | ((with_reducible refine gate_dst (N := 2) rfl ?_); refine box_event ?hg (N := 2) ?hd (cs := #[.int .i64 0, .int .i64 0, .int .i64 0, .slice none 0 0]) (t := 28) ?hr ?_; (case hd => rfl); (case hg => rfl); (case hr => (go_simp; done)); intro gb536 hg w3 hbox hb; have n0_ := Aside0.mk (IsS75.below HI0.out hb); have n1_ := Aside0.mk (KeepBut.trans HK.out (KeepBut.of_below hb g none) (.inl rfl)); have n2_ := Aside0.mk (below_step HB.out hb); have n3_ := Aside0.mk (hbox); have n4_ := Aside0.mk ((by rw [hg]; exact (keep_size HK.out) : w.heap.size ≤ gb536)); have n5_ := Aside0.mk ((Nat.le_trans HW0.out (by rw [hg]; exact (keep_size HK.out) : w.heap.size ≤ gb536) : w0.heap.size ≤ gb536)); have n6_ := Aside0.mk ((by rw [hg]; exact Nat.ne_of_lt (IsS75.lt HI0.out) : g ≠ gb536)); have n7_ := Aside0.mk ((by rw [hg]; exact Nat.ne_of_gt (IsS75.lt HI0.out) : gb536 ≠ g)); clear HI0 HK HB; have HI0 := n0_; have HK := n1_; have HB := n2_; have BK536 := n3_; have GW536 := n4_; have GE536 := n5_; have NB0_536 := n6_; have NB536_0 := n7_; clear n0_ n1_ n2_ n3_ n4_ n5_ n6_ n7_ hb hbox hg) | ((with_reducible refine gate_callee (f := 80) rfl ?_); refine goesL_ (some 5) rfl rfl Try.func80 (by kernel_rfl) rfl #[.pointer (some ⟨g, 0, none⟩)] rfl (by (simp only [List.map_toArray, List.map_cons, List.map_nil]); rfl) ?_; (with_reducible refine (ih80 k (by omega) g s0_0 s0_1 s0_2 s0_3 s0_4 s0_5 s0_6 s0_7 s0_8 s0_9 s0_10 t537 t538 t539 t540 t543 t544 t545 t546 t547 t548 t549 t550 t551 t552 w0 _ HI0.out HB.out A2.out).mono ?_); rintro e w4 ⟨v541, rfl, ho0, hi, hb, hk⟩; refine ⟨_, rfl, ?_⟩; have n0_ := Aside0.mk (KeepBut.blk hk BK536.out NB536_0.out (by simp)); have n1_ := Aside0.mk (Kd.V_lower (Kd.V_mono (ok' := fun k_ => (w.heap.size ≤ k_) ∧ k_ ≠ gb536 ∧ k_ ≠ g) ho0 (fun k_ hk_ => ⟨(Nat.le_trans (keep_size HK.out) hk_), (Kd.freshB BK536.out k_ hk_), (IsS75.fresh HI0.out k_ hk_)⟩)) (keep_size HK.out)); have n2_ := Aside0.mk (KeepBut.trans HK.out hk (.inl rfl)); have n3_ := Aside0.mk (hb); have n4_ := Aside0.mk (hi); clear BK536 HK HB HI0; have BK536 := n0_; have HO542 := n1_; have HK := n2_; have HB := n3_; have HI0 := n4_; clear n0_ n1_ n2_ n3_ n4_ hb hk hi ho0; obtain ⟨Ao5, co5, eo5⟩ := Kd.V_slice HO542.out; subst eo5) | ((with_reducible refine gate_dst (N := 6) rfl ?_); refine Kd.N_lit k28 _ 28 ?hg (N' := 6) ?hd (xs := ([(⟨t537, t538, t539, t540⟩ : S28)] : List (S28))) (inner := [.int .i64 t537, .int .i64 t538, .int .i64 t539, .slice Ao5 t540.length co5]) (ok := (fun k_ => (w.heap.size ≤ k_) ∧ k_ ≠ gb536 ∧ k_ ≠ g)) (okp := (fun k_ => (w.heap.size ≤ k_) ∧ k_ ≠ gb536 ∧ k_ ≠ g)) ?hr ?hp (fun _ hk => hk) ((show ∀ k_, w4.heap.size ≤ k_ → (fun k_ => (w.heap.size ≤ k_) ∧ k_ ≠ gb536 ∧ k_ ≠ g) k_ from fun k_ hk => ⟨(Nat.le_trans (keep_size HK.out) hk), Kd.freshB BK536.out k_ hk, IsS75.fresh HI0.out k_ hk⟩) _ (Nat.le_refl _)) (Below.refl _ _) (Nat.le_refl _) (by simp) ?_; (case hd => rfl); (case hg => rfl); (case hr => (go_simp; done)); (case hp => exact (Reps.c4 (show Kd.FK k28 _ _ (⟨t537, t538, t539, t540⟩ : S28) [.int .i64 t537, .int .i64 t538, .int .i64 t539, .slice Ao5 t540.length co5] from (k28_mkF _ _ (⟨t537, t538, t539, t540⟩ : S28) (Kd.V_reads' (Kd.V_mono (ok' := (fun k_ => (w.heap.size ≤ k_) ∧ k_ ≠ gb536 ∧ k_ ≠ g)) (HO542.out) (fun k_ hk => ⟨hk.1, ⟨hk.2.1, hk.2.2⟩⟩))).2.1 (Kd.V_F (Kd.V_mono (ok' := (fun k_ => (w.heap.size ≤ k_) ∧ k_ ≠ gb536 ∧ k_ ≠ g)) (HO542.out) (fun k_ hk => ⟨hk.1, ⟨hk.2.1, hk.2.2⟩⟩))))) (Reps.none _ _))); intro v554 w6 ho7 hb hg_ hnew_; clear hg_ hnew_; (rw [← Ny553.out] at ho7); have n0_ := Aside0.mk (Kd.V_elder' HO542.out (Kd.N_base ho7) hb); have n1_ := Aside0.mk (Kd.N_lower ho7 (keep_size HK.out)); have n2_ := Aside0.mk (IsS75.below HI0.out hb); have n3_ := Aside0.mk (blk_below BK536.out hb); have n4_ := Aside0.mk (KeepBut.trans HK.out (KeepBut.of_below hb g none) (.inl rfl)); have n5_ := Aside0.mk (below_step HB.out hb); clear HO542 HI0 BK536 HK HB; have HO542 := n0_; have HO555 := n1_; have HI0 := n2_; have BK536 := n3_; have HK := n4_; have HB := n5_; clear n0_ n1_ n2_ n3_ n4_ n5_ hb ho7))
  go_loopg [3] k (fun kq v3 w' => ∃ (x3_1 : List (S28)) (x1001_1 : ByteArray) (x1002_1 : Int) (x1003_1 : Int) (x1004_1 : Int) (x1005_1 : ByteArray) (x1006_1 : Int) (x1007_1 : Int) (x1008_1 : Int) (x1009_1 : Int) (x1010_1 : Int), Aside0 (expr_parser_cat.l0 kq x3_1 s0_0 x1001_1 x1002_1 x1003_1 x1004_1 x1005_1 x1006_1 x1007_1 x1008_1 x1009_1 x1010_1 = some (r1, r2, r3, r4, r5, r6, r7, r8, r9, r10, r11, r12, r13, r14)) ∧ Aside0 (kq ≤ k) ∧ Aside0 (Kd.N k28 28 w' w.heap.size (fun k_ => (w.heap.size ≤ k_) ∧ k_ ≠ gb536 ∧ k_ ≠ g) v3 x3_1) ∧ Aside0 (w'.heap[gb536]? = some (.cells #[.int .i64 0, .int .i64 0, .int .i64 0, (.slice none 0 0)] 28 (0, 0))) ∧ Aside0 (IsS75 w0 w' g s0_0 x1001_1 x1002_1 x1003_1 x1004_1 x1005_1 x1006_1 x1007_1 x1008_1 x1009_1 x1010_1) ∧ Aside0 (KeepBut w w' g none) ∧ Aside0 (Below w0.heap.size w0 w'))
  case atStart => exact ⟨(y553), (t543), (t544), (t545), (t546), (t547), (t548), (t549), (t550), (t551), (t552), H', ⟨Nat.le_refl _⟩, ⟨by exact HO555.out⟩, ⟨by exact BK536.out⟩, ⟨by with_reducible exact HI0.out⟩, ⟨by with_reducible exact HK.out⟩, ⟨by with_reducible exact HB.out⟩⟩
  case round =>
    clear H'
    obtain ⟨x3_1, x1001_1, x1002_1, x1003_1, x1004_1, x1005_1, x1006_1, x1007_1, x1008_1, x1009_1, x1010_1, HA, HK1, HO_3, BK536, HI0, HK, HB⟩ := hrel
    cases gk with
    | zero => exact absurd HA.out (by simp [expr_parser_cat.l0])
    | succ k1 =>
      have H := HA.out
      clear HA
      simp only [expr_parser_cat.l0] at H
      by_cases c8 : x1009_1 = 0
      · rw [if_pos c8] at H
        have c8b0 : (x1009_1 == 0) = true := beq_iff_eq.mpr c8
        have c8b1 : (x1009_1 != 0) = false := bne_eq_false_iff_eq.mpr c8
        clear c8
        replace H := Option.bind_eq_some_iff.mp H
        obtain ⟨⟨t556, t557, t558, t559, t560, t561, t562, t563, t564, t565, t566⟩, A90, H⟩ := H
        try dsimp only at H
        have A9 := Aside0.mk A90
        clear A90
        by_cases c10 : t556 = true
        · subst c10
          rw [if_pos rfl] at H
          replace H := Option.bind_eq_some_iff.mp H
          obtain ⟨⟨t567, t568, t569, t570, t573, t574, t575, t576, t577, t578, t579, t580, t581, t582⟩, A110, H⟩ := H
          try dsimp only at H
          have A11 := Aside0.mk A110
          clear A110
          by_cases c12 : x3_1.length < 2932031007402
          · rw [if_pos c12] at H
            have LMc12 := Aside0.mk c12
            clear c12
            obtain ⟨y583, hy583⟩ : ∃ y_ : List (S28), y_ = (x3_1 ++ [(⟨t567, t568, t569, t570⟩ : S28)]) := ⟨_, rfl⟩
            replace H : (expr_parser_cat.l0 k1 y583 s0_0 t573 t574 t575 t576 t577 t578 t579 t580 t581 t582) = some (r1, r2, r3, r4, r5, r6, r7, r8, r9, r10, r11, r12, r13, r14) := by (rw [hy583]; with_reducible exact H)
            have Ny583 := Aside0.mk hy583
            clear hy583
            have H' := Aside0.mk H
            clear H
            obtain ⟨ASz13_0, cSz13_0, HGz13, hgz13, HSz13_0, HDz13_0⟩ := HI0.out
            obtain ⟨hcz13_0, hcz13_1, hcz13_2, hcz13_3, hcz13_4, hcz13_5, hcz13_6, hcz13_7, hcz13_8, hcz13_9, hcz13_10, -, hfz13_1, hfz13_2, hfz13_3, hfz13_4, hfz13_5, hfz13_6, hfz13_7, hfz13_8, hfz13_9, hfz13_10⟩ := Go.Proofs.YtodbnnfiadcbaaaH.cells11 HGz13
            clear HGz13 hgz13
            go_wp2_with (first | (go_at_call 81; (with_reducible refine (expr_parser_begins.calls g s0_0 x1001_1 x1002_1 x1003_1 x1004_1 x1005_1 x1006_1 x1007_1 x1008_1 x1009_1 x1010_1 true t557 t558 t559 t560 t561 t562 t563 t564 t565 t566 w0 _ HI0.out HB.out A9.out).mono ?_); rintro e w14 ⟨rfl, hi, hb, hk⟩; have n0_ := Aside0.mk (Kd.N_mono (Kd.N_keep (Kd.N_mono (ok := fun k_ => (((w.heap.size ≤ k_)) ∧ (k_ ≠ gb536 ∧ k_ ≠ g))) HO_3.out (fun k_ hk_ => (⟨hk_, hk_.2.2⟩ : _ ∧ k_ ≠ g))) hk (fun _ h => h.2)) (fun _ h => h.1)); have n1_ := Aside0.mk (KeepBut.blk hk BK536.out NB536_0.out (by simp)); have n2_ := Aside0.mk (KeepBut.trans HK.out hk (.inl rfl)); have n3_ := Aside0.mk (hb); have n4_ := Aside0.mk (hi); clear HO_3 BK536 HK HB HI0; have HO_3 := n0_; have BK536 := n1_; have HK := n2_; have HB := n3_; have HI0 := n4_; clear n0_ n1_ n2_ n3_ n4_ hb hk hi) | ((with_reducible refine gate_callee (f := 80) rfl ?_); refine goesL_ (some 18) rfl rfl Try.func80 (by kernel_rfl) rfl #[.pointer (some ⟨g, 0, none⟩)] rfl (by (simp only [List.map_toArray, List.map_cons, List.map_nil]); rfl) ?_; (with_reducible refine (ih80 k1 (by have := HK1.out; omega) g s0_0 t557 t558 t559 t560 t561 t562 t563 t564 t565 t566 t567 t568 t569 t570 t573 t574 t575 t576 t577 t578 t579 t580 t581 t582 w0 _ HI0.out HB.out A11.out).mono ?_); rintro e w15 ⟨v571, rfl, ho0, hi, hb, hk⟩; refine ⟨_, rfl, ?_⟩; have n0_ := Aside0.mk (Kd.N_mono (Kd.N_keep (Kd.N_mono (ok := fun k_ => (((w.heap.size ≤ k_)) ∧ (k_ ≠ gb536 ∧ k_ ≠ g))) HO_3.out (fun k_ hk_ => (⟨hk_, hk_.2.2⟩ : _ ∧ k_ ≠ g))) hk (fun _ h => h.2)) (fun _ h => h.1)); have n1_ := Aside0.mk (KeepBut.blk hk BK536.out NB536_0.out (by simp)); have n2_ := Aside0.mk (Kd.V_lower (Kd.V_mono (ok' := fun k_ => (w.heap.size ≤ k_) ∧ some k_ ≠ (u3 : Value).ownBlock ∧ k_ ≠ gb536 ∧ k_ ≠ g) ho0 (fun k_ hk_ => ⟨(Nat.le_trans (keep_size HK.out) hk_), (Kd.fresh' (Kd.N_lt HO_3.out) k_ hk_), (Kd.freshB BK536.out k_ hk_), (IsS75.fresh HI0.out k_ hk_)⟩)) (keep_size HK.out)); have n3_ := Aside0.mk (KeepBut.trans HK.out hk (.inl rfl)); have n4_ := Aside0.mk (hb); have n5_ := Aside0.mk (hi); clear HO_3 BK536 HK HB HI0; have HO_3 := n0_; have BK536 := n1_; have HO572 := n2_; have HK := n3_; have HB := n4_; have HI0 := n5_; clear n0_ n1_ n2_ n3_ n4_ n5_ hb hk hi ho0; obtain ⟨Ao17, co17, eo17⟩ := Kd.V_slice HO572.out; subst eo17) | ((with_reducible refine gate_builtin (b := .append) (xs := #[.tmp 16, .tmp 19]) rfl ?_); at_builtin; refine Kd.N_append k28 w.heap.size rfl (.tmp 16) (.tmp 19) 26 28 (.agg #[(.int .i64 0), (.int .i64 0), (.int .i64 0), (.slice none 0 0)]) 48 rfl Try.underlying26 info28 rfl (by decide) (by omega) u3 x3_1 (⟨t567, t568, t569, t570⟩ : S28) [.int .i64 t567, .int .i64 t568, .int .i64 t569, .slice Ao17 t570.length co17] (fun k_ => (w.heap.size ≤ k_) ∧ k_ ≠ gb536 ∧ k_ ≠ g) (fun k_ => ((fun k_ => (w.heap.size ≤ k_) ∧ k_ ≠ gb536 ∧ k_ ≠ g)) k_ ∧ some k_ ≠ (u3 : Value).ownBlock) rfl rfl ?aP (fun _ hk => hk) ?aF ?aO (Below.refl _ _) ?aS ?aL ?_; (case aP => exact (k28_mkF _ _ (⟨t567, t568, t569, t570⟩ : S28) (Kd.V_reads' (Kd.V_mono (ok' := (fun k_ => ((fun k_ => (w.heap.size ≤ k_) ∧ k_ ≠ gb536 ∧ k_ ≠ g)) k_ ∧ some k_ ≠ (u3 : Value).ownBlock)) (HO572.out) (fun k_ hk => ⟨⟨hk.1, ⟨hk.2.2.1, hk.2.2.2⟩⟩, hk.2.1⟩))).2.1 (Kd.V_F (Kd.V_mono (ok' := (fun k_ => ((fun k_ => (w.heap.size ≤ k_) ∧ k_ ≠ gb536 ∧ k_ ≠ g)) k_ ∧ some k_ ≠ (u3 : Value).ownBlock)) (HO572.out) (fun k_ hk => ⟨⟨hk.1, ⟨hk.2.2.1, hk.2.2.2⟩⟩, hk.2.1⟩))))); (case aF => exact (fun k_ hk => ⟨(Nat.le_trans (keep_size HK.out) hk), Kd.freshB BK536.out k_ hk, IsS75.fresh HI0.out k_ hk⟩)); (case aO => exact HO_3.out); (case aS => exact (keep_size HK.out)); (case aL => have := LMc12.out; omega); intro v584 w16 ho hb hg hat; rw [← Ny583.out] at ho; have n0_ := Aside0.mk (blk_grown BK536.out hg (Kd.N_away HO_3.out (fun _ hk => hk.2.1))); have n1_ := Aside0.mk (IsS75.grown HI0.out hg (IsS75.own_neN HI0.out HO_3.out (by decide))); have n2_ := Aside0.mk (Kd.V_afterv (ok := (fun k_ => (w.heap.size ≤ k_) ∧ k_ ≠ gb536 ∧ k_ ≠ g)) (by exact Kd.V_mono HO572.out (fun _ hk => ⟨⟨hk.1, ⟨hk.2.2.1, hk.2.2.2⟩⟩, hk.2.1⟩)) hg hat); have n3_ := Aside0.mk (below_weaken HB.out HL.out hb); have n4_ := Aside0.mk (KeepBut.trans HK.out (KeepBut.of_grown hg g) (Kd.N_base2 HO_3.out)); have n5_ := Aside0.mk (ho); clear BK536 HI0 HO572 HB HK HO_3; have BK536 := n0_; have HI0 := n1_; have HO572 := n2_; have HB := n3_; have HK := n4_; have HO585 := n5_; clear n0_ n1_ n2_ n3_ n4_ n5_ ho hb hg hat))
            go_roundg k1
            case measure => have := HK1.out; omega
            case rel => exact ⟨(y583), (t573), (t574), (t575), (t576), (t577), (t578), (t579), (t580), (t581), (t582), H', ⟨by have := HK1.out; omega⟩, ⟨by exact HO585.out⟩, ⟨by exact BK536.out⟩, ⟨by with_reducible exact HI0.out⟩, ⟨by with_reducible exact HK.out⟩, ⟨by with_reducible exact HB.out⟩⟩
          · rw [if_neg c12] at H
            exact absurd H (by simp)
        · replace c10 := Bool.eq_false_iff.mpr c10
          subst c10
          rw [if_neg (show ¬ (false = true) by decide)] at H
          replace H := Option.bind_eq_some_iff.mp H
          obtain ⟨⟨t586, t587, t588, t589⟩, A180, H⟩ := H
          try dsimp only at H
          have A18 := Aside0.mk A180
          clear A180
          simp only [Option.some.injEq, Prod.mk.injEq] at H
          obtain ⟨rfl, rfl, rfl, rfl, rfl, rfl, rfl, rfl, rfl, rfl, rfl, rfl, rfl, rfl⟩ := H
          obtain ⟨ASz19_0, cSz19_0, HGz19, hgz19, HSz19_0, HDz19_0⟩ := HI0.out
          obtain ⟨hcz19_0, hcz19_1, hcz19_2, hcz19_3, hcz19_4, hcz19_5, hcz19_6, hcz19_7, hcz19_8, hcz19_9, hcz19_10, -, hfz19_1, hfz19_2, hfz19_3, hfz19_4, hfz19_5, hfz19_6, hfz19_7, hfz19_8, hfz19_9, hfz19_10⟩ := Go.Proofs.YtodbnnfiadcbaaaH.cells11 HGz19
          clear HGz19 hgz19
          go_wp2_with (first | (go_at_call 81; (with_reducible refine (expr_parser_begins.calls g s0_0 x1001_1 x1002_1 x1003_1 x1004_1 x1005_1 x1006_1 x1007_1 x1008_1 x1009_1 x1010_1 false t557 t558 t559 t560 t561 t562 t563 t564 t565 t566 w0 _ HI0.out HB.out A9.out).mono ?_); rintro e w20 ⟨rfl, hi, hb, hk⟩; have n0_ := Aside0.mk (Kd.N_mono (Kd.N_keep (Kd.N_mono (ok := fun k_ => (((w.heap.size ≤ k_)) ∧ (k_ ≠ gb536 ∧ k_ ≠ g))) HO_3.out (fun k_ hk_ => (⟨hk_, hk_.2.2⟩ : _ ∧ k_ ≠ g))) hk (fun _ h => h.2)) (fun _ h => h.1)); have n1_ := Aside0.mk (KeepBut.blk hk BK536.out NB536_0.out (by simp)); have n2_ := Aside0.mk (KeepBut.trans HK.out hk (.inl rfl)); have n3_ := Aside0.mk (hb); have n4_ := Aside0.mk (hi); clear HO_3 BK536 HK HB HI0; have HO_3 := n0_; have BK536 := n1_; have HK := n2_; have HB := n3_; have HI0 := n4_; clear n0_ n1_ n2_ n3_ n4_ hb hk hi; obtain ⟨Ao21, co21, eo21⟩ := Kd.N_slice HO_3.out; subst eo21) | ((with_reducible refine gate_callee (f := 63) rfl ?_); refine goesL_ (some 22) rfl rfl Try.func63 (by kernel_rfl) rfl #[.int .i64 5, .slice Ao21 x3_1.length co21] rfl (by (simp only [List.map_toArray, List.map_cons, List.map_nil]); rfl) ?_; (with_reducible refine (expr_several.calls 5 (fun k_ => ((w.heap.size ≤ k_) ∧ (k_ ≠ gb536 ∧ k_ ≠ g))) _ _ x3_1 t586 t587 t588 t589 _ ?side1 A18.out).mono ?_); (case side1 => exact Kd.N_V (HO_3.out)); rintro e w22 ⟨v590, rfl, ho0, hb⟩; refine ⟨_, rfl, ?_⟩; have n0_ := Aside0.mk (Kd.N_below HO_3.out hb); have n1_ := Aside0.mk (Kd.V_lower (Kd.V_mono (ok' := fun k_ => (w.heap.size ≤ k_) ∧ k_ ≠ gb536 ∧ k_ ≠ g) ho0 (fun k_ hk_ => ⟨Or.elim hk_ (fun hs_ => hs_.1) (fun hn_ => (Nat.le_trans (keep_size HK.out) hn_)), Or.elim hk_ (fun hs_ => hs_.2.1) (fun hn_ => (Kd.freshB BK536.out k_ hn_)), Or.elim hk_ (fun hs_ => hs_.2.2) (fun hn_ => (IsS75.fresh HI0.out k_ hn_))⟩)) (keep_size HK.out)); have n2_ := Aside0.mk (blk_below BK536.out hb); have n3_ := Aside0.mk (IsS75.below HI0.out hb); have n4_ := Aside0.mk (KeepBut.trans HK.out (KeepBut.of_below hb g none) (.inl rfl)); have n5_ := Aside0.mk (below_step HB.out hb); clear HO_3 BK536 HI0 HK HB; have HO_3 := n0_; have HO591 := n1_; have BK536 := n2_; have HI0 := n3_; have HK := n4_; have HB := n5_; clear n0_ n1_ n2_ n3_ n4_ n5_ hb ho0; have hnb23 := NB536_0.out; have hnc23 := NB0_536.out; obtain ⟨hcz24_0, hcz24_1, hcz24_2, hcz24_3, hfz24_0, hfz24_1, hfz24_2, hfz24_3⟩ := Go.Proofs.YtodbnnfiadcbaaaH.cells4 BK536.out; obtain ⟨Ao25, co25, eo25⟩ := Kd.V_slice HO591.out; subst eo25))
          refine bodyPost_ret (results_cell_row rfl _ _ gb536 28 #[.int .i64 t586, .int .i64 t587, .int .i64 t588, .slice Ao25 t589.length co25] (0, 0) _ rfl (by refine blk_put (cs := #[.int .i64 t586, .int .i64 t587, .int .i64 t588, .slice none 0 0]) ?_ 3 _ rfl; refine blk_put (cs := #[.int .i64 t586, .int .i64 t587, .int .i64 0, .slice none 0 0]) ?_ 2 _ rfl; refine blk_put (cs := #[.int .i64 t586, .int .i64 0, .int .i64 0, .slice none 0 0]) ?_ 1 _ rfl; refine blk_put (cs := #[.int .i64 0, .int .i64 0, .int .i64 0, .slice none 0 0]) ?_ 0 _ rfl; exact BK536.out) Try.underlying28 rfl (by kernel_rfl)) rfl ?_
          exact ⟨_, by rfl, by exact Kd.V_mono (Kd.V_far (p := ⟨gb536, 3, none⟩) (Kd.V_far (p := ⟨gb536, 2, none⟩) (Kd.V_far (p := ⟨gb536, 1, none⟩) (Kd.V_far (p := ⟨gb536, 0, none⟩) (Kd.V_mono HO591.out (fun k_ hk => (⟨hk, hk.2.1⟩ : _ ∧ k_ ≠ gb536))) (fun _ hk => hk.2) (.int .i64 t586)) (fun _ hk => hk.2) (.int .i64 t587)) (fun _ hk => hk.2) (.int .i64 t588)) (fun _ hk => hk.2) (.slice Ao25 t589.length co25)) (fun _ hk => hk.1.1), by repeat ((with_reducible first | exact HI0.out | apply IsS75.far_ (hne := NB0_536.out))), by repeat ((with_reducible first | exact HB.out | refine below_set ?_ GE536.out)), by repeat ((with_reducible first | exact HK.out | refine keep_far ?_ GW536.out _))⟩
      · rw [if_neg c8] at H
        have c8b0 : (x1009_1 == 0) = false := beq_eq_false_iff_ne.mpr c8
        have c8b1 : (x1009_1 != 0) = true := bne_iff_ne.mpr c8
        replace H := Option.bind_eq_some_iff.mp H
        obtain ⟨⟨t592, t593, t594, t595⟩, A260, H⟩ := H
        try dsimp only at H
        have A26 := Aside0.mk A260
        clear A260
        simp only [Option.some.injEq, Prod.mk.injEq] at H
        obtain ⟨rfl, rfl, rfl, rfl, rfl, rfl, rfl, rfl, rfl, rfl, rfl, rfl, rfl, rfl⟩ := H
        obtain ⟨ASz27_0, cSz27_0, HGz27, hgz27, HSz27_0, HDz27_0⟩ := HI0.out
        obtain ⟨hcz27_0, hcz27_1, hcz27_2, hcz27_3, hcz27_4, hcz27_5, hcz27_6, hcz27_7, hcz27_8, hcz27_9, hcz27_10, -, hfz27_1, hfz27_2, hfz27_3, hfz27_4, hfz27_5, hfz27_6, hfz27_7, hfz27_8, hfz27_9, hfz27_10⟩ := Go.Proofs.YtodbnnfiadcbaaaH.cells11 HGz27
        clear HGz27 hgz27
        obtain ⟨Ao28, co28, eo28⟩ := Kd.N_slice HO_3.out
        subst eo28
        go_wp2_with (((with_reducible refine gate_callee (f := 63) rfl ?_); refine goesL_ (some 22) rfl rfl Try.func63 (by kernel_rfl) rfl #[.int .i64 5, .slice Ao28 x3_1.length co28] rfl (by (simp only [List.map_toArray, List.map_cons, List.map_nil]); rfl) ?_; (with_reducible refine (expr_several.calls 5 (fun k_ => ((w.heap.size ≤ k_) ∧ (k_ ≠ gb536 ∧ k_ ≠ g))) _ _ x3_1 t592 t593 t594 t595 _ ?side1 A26.out).mono ?_); (case side1 => exact Kd.N_V (HO_3.out)); rintro e w29 ⟨v596, rfl, ho0, hb⟩; refine ⟨_, rfl, ?_⟩; have n0_ := Aside0.mk (Kd.N_below HO_3.out hb); have n1_ := Aside0.mk (Kd.V_lower (Kd.V_mono (ok' := fun k_ => (w.heap.size ≤ k_) ∧ k_ ≠ gb536 ∧ k_ ≠ g) ho0 (fun k_ hk_ => ⟨Or.elim hk_ (fun hs_ => hs_.1) (fun hn_ => (Nat.le_trans (keep_size HK.out) hn_)), Or.elim hk_ (fun hs_ => hs_.2.1) (fun hn_ => (Kd.freshB BK536.out k_ hn_)), Or.elim hk_ (fun hs_ => hs_.2.2) (fun hn_ => (IsS75.fresh HI0.out k_ hn_))⟩)) (keep_size HK.out)); have n2_ := Aside0.mk (blk_below BK536.out hb); have n3_ := Aside0.mk (IsS75.below HI0.out hb); have n4_ := Aside0.mk (KeepBut.trans HK.out (KeepBut.of_below hb g none) (.inl rfl)); have n5_ := Aside0.mk (below_step HB.out hb); clear HO_3 BK536 HI0 HK HB; have HO_3 := n0_; have HO597 := n1_; have BK536 := n2_; have HI0 := n3_; have HK := n4_; have HB := n5_; clear n0_ n1_ n2_ n3_ n4_ n5_ hb ho0; have hnb30 := NB536_0.out; have hnc30 := NB0_536.out; obtain ⟨hcz31_0, hcz31_1, hcz31_2, hcz31_3, hfz31_0, hfz31_1, hfz31_2, hfz31_3⟩ := Go.Proofs.YtodbnnfiadcbaaaH.cells4 BK536.out; obtain ⟨Ao32, co32, eo32⟩ := Kd.V_slice HO597.out; subst eo32))
        refine bodyPost_ret (results_cell_row rfl _ _ gb536 28 #[.int .i64 t592, .int .i64 t593, .int .i64 t594, .slice Ao32 t595.length co32] (0, 0) _ rfl (by refine blk_put (cs := #[.int .i64 t592, .int .i64 t593, .int .i64 t594, .slice none 0 0]) ?_ 3 _ rfl; refine blk_put (cs := #[.int .i64 t592, .int .i64 t593, .int .i64 0, .slice none 0 0]) ?_ 2 _ rfl; refine blk_put (cs := #[.int .i64 t592, .int .i64 0, .int .i64 0, .slice none 0 0]) ?_ 1 _ rfl; refine blk_put (cs := #[.int .i64 0, .int .i64 0, .int .i64 0, .slice none 0 0]) ?_ 0 _ rfl; exact BK536.out) Try.underlying28 rfl (by kernel_rfl)) rfl ?_
        exact ⟨_, by rfl, by exact Kd.V_mono (Kd.V_far (p := ⟨gb536, 3, none⟩) (Kd.V_far (p := ⟨gb536, 2, none⟩) (Kd.V_far (p := ⟨gb536, 1, none⟩) (Kd.V_far (p := ⟨gb536, 0, none⟩) (Kd.V_mono HO597.out (fun k_ hk => (⟨hk, hk.2.1⟩ : _ ∧ k_ ≠ gb536))) (fun _ hk => hk.2) (.int .i64 t592)) (fun _ hk => hk.2) (.int .i64 t593)) (fun _ hk => hk.2) (.int .i64 t594)) (fun _ hk => hk.2) (.slice Ao32 t595.length co32)) (fun _ hk => hk.1.1), by repeat ((with_reducible first | exact HI0.out | apply IsS75.far_ (hne := NB0_536.out))), by repeat ((with_reducible first | exact HB.out | refine below_set ?_ GE536.out)), by repeat ((with_reducible first | exact HK.out | refine keep_far ?_ GW536.out _))⟩

end Go.Proofs.Ytodbnnfiadcbaaa.P
namespace Go.Proofs.Ytodbnnfiadcbaaa.P
open Go.RowKit Go.Proofs.YtodbnnfiadcbaaaW.PrintWords Go.Proofs.YtodbnnfiadcbaaaW.PrintLast Go.Proofs.YtodbnnfiadcbaaaW.PrintMore
attribute [local go_sem] max2_int min2_int max_two min_two max_three min_three max_four min_four   -- for this text's walks alone
set_option linter.unusedVariables false
set_option linter.unusedSimpArgs false

/-! ### expr_parser_or: function 41 -/
set_option maxHeartbeats 8000000 in
set_option maxRecDepth 100000 in
theorem expr_parser_or.step (k : Nat) (ih41 : ∀ m, m < k → expr_parser_or.S m) (ih61 : ∀ m, m < k → expr_parser_cat.S m) (ih80 : ∀ m, m < k → expr_parser_rep.S m) (ih86 : ∀ m, m < k → expr_parser_atom.S m) (ih92 : ∀ m, m < k → expr_parser_within.S m) : ∀ (g : Nat) (s0_0 : List (S56)) (s0_1 : ByteArray) (s0_2 : Int) (s0_3 : Int) (s0_4 : Int) (s0_5 : ByteArray) (s0_6 : Int) (s0_7 : Int) (s0_8 : Int) (s0_9 : Int) (s0_10 : Int) (r1 : Int) (r2 : Int) (r3 : Int) (r4 : List (S28)) (r5 : ByteArray) (r6 : Int) (r7 : Int) (r8 : Int) (r9 : ByteArray) (r10 : Int) (r11 : Int) (r12 : Int) (r13 : Int) (r14 : Int) (w0 w : World) (hI : IsS75 w0 w g s0_0 s0_1 s0_2 s0_3 s0_4 s0_5 s0_6 s0_7 s0_8 s0_9 s0_10) (hB : Below w0.heap.size w0 w) (h : expr_parser_or.f k s0_0 s0_1 s0_2 s0_3 s0_4 s0_5 s0_6 s0_7 s0_8 s0_9 s0_10 = some (r1, r2, r3, r4, r5, r6, r7, r8, r9, r10, r11, r12, r13, r14)),
    Calls Try.prog 41 #[.pointer (some ⟨g, 0, none⟩)] w fun e w' => ∃ v3_ : Value, e = .returned (.agg #[.int .i64 r1, .int .i64 r2, .int .i64 r3, v3_]) ∧ Kd.V k28 28 w' w.heap.size (fun k_ => (w.heap.size ≤ k_)) v3_ r4 ∧ IsS75 w0 w' g s0_0 r5 r6 r7 r8 r9 r10 r11 r12 r13 r14 ∧ Below w0.heap.size w0 w' ∧ KeepBut w w' g none := by
  intro g s0_0 s0_1 s0_2 s0_3 s0_4 s0_5 s0_6 s0_7 s0_8 s0_9 s0_10 r1 r2 r3 r4 r5 r6 r7 r8 r9 r10 r11 r12 r13 r14 w0 w hI hB h
  cases k with
  | zero => exact absurd h (by simp [expr_parser_or.f])
  | succ k =>
  simp only [expr_parser_or.f] at h
  have hu28 := Try.underlying28
  have HI0 := Aside0.mk hI
  have HK := Aside0.mk (KeepBut.refl w g none)
  have HL := Aside0.mk hB.size
  clear hI
  have HW0 := Aside0.mk hB.size
  have HB := Aside0.mk hB
  clear hB
  have H : ((expr_parser_cat.f k s0_0 s0_1 s0_2 s0_3 s0_4 s0_5 s0_6 s0_7 s0_8 s0_9 s0_10).bind fun bt599 => (expr_parser_or.l0 k (([(⟨bt599.1, bt599.2.1, bt599.2.2.1, bt599.2.2.2.1⟩ : S28)] : List (S28))) s0_0 bt599.2.2.2.2.1 bt599.2.2.2.2.2.1 bt599.2.2.2.2.2.2.1 bt599.2.2.2.2.2.2.2.1 bt599.2.2.2.2.2.2.2.2.1 bt599.2.2.2.2.2.2.2.2.2.1 bt599.2.2.2.2.2.2.2.2.2.2.1 bt599.2.2.2.2.2.2.2.2.2.2.2.1 bt599.2.2.2.2.2.2.2.2.2.2.2.2.1 bt599.2.2.2.2.2.2.2.2.2.2.2.2.2)) = some (r1, r2, r3, r4, r5, r6, r7, r8, r9, r10, r11, r12, r13, r14) := h
  clear h
  replace H := Option.bind_eq_some_iff.mp H
  obtain ⟨⟨t599, t600, t601, t602, t605, t606, t607, t608, t609, t610, t611, t612, t613, t614⟩, A20, H⟩ := H
  try dsimp only at H
  have A2 := Aside0.mk A20
  clear A20
  obtain ⟨y615, hy615⟩ : ∃ y_ : List (S28), y_ = (([(⟨t599, t600, t601, t602⟩ : S28)] : List (S28))) := ⟨_, rfl⟩
  replace H : (expr_parser_or.l0 k y615 s0_0 t605 t606 t607 t608 t609 t610 t611 t612 t613 t614) = some (r1, r2, r3, r4, r5, r6, r7, r8, r9, r10, r11, r12, r13, r14) := by (rw [hy615]; with_reducible exact H)
  have Ny615 := Aside0.mk hy615
  clear hy615
  have H' := Aside0.mk H
  clear H
  go_enter Try.func41, Try.ntmps41
  go_wp2_with (first | ((with_reducible refine gate_dst (N := 2) rfl ?_); refine box_event ?hg (N := 2) ?hd (cs := #[.int .i64 0, .int .i64 0, .int .i64 0, .slice none 0 0]) (t := 28) ?hr ?_; (case hd => rfl); (case hg => rfl); (case hr => (go_simp; done)); intro gb598 hg w3 hbox hb; have n0_ := Aside0.mk (IsS75.below HI0.out hb); have n1_ := Aside0.mk (KeepBut.trans HK.out (KeepBut.of_below hb g none) (.inl rfl)); have n2_ := Aside0.mk (below_step HB.out hb); have n3_ := Aside0.mk (hbox); have n4_ := Aside0.mk ((by rw [hg]; exact (keep_size HK.out) : w.heap.size ≤ gb598)); have n5_ := Aside0.mk ((Nat.le_trans HW0.out (by rw [hg]; exact (keep_size HK.out) : w.heap.size ≤ gb598) : w0.heap.size ≤ gb598)); have n6_ := Aside0.mk ((by rw [hg]; exact Nat.ne_of_lt (IsS75.lt HI0.out) : g ≠ gb598)); have n7_ := Aside0.mk ((by rw [hg]; exact Nat.ne_of_gt (IsS75.lt HI0.out) : gb598 ≠ g)); clear HI0 HK HB; have HI0 := n0_; have HK := n1_; have HB := n2_; have BK598 := n3_; have GW598 := n4_; have GE598 := n5_; have NB0_598 := n6_; have NB598_0 := n7_; clear n0_ n1_ n2_ n3_ n4_ n5_ n6_ n7_ hb hbox hg) | ((with_reducible refine gate_callee (f := 61) rfl ?_); refine goesL_ (some 5) rfl rfl Try.func61 (by kernel_rfl) rfl #[.pointer (some ⟨g, 0, none⟩)] rfl (by (simp only [List.map_toArray, List.map_cons, List.map_nil]); rfl) ?_; (with_reducible refine (ih61 k (by omega) g s0_0 s0_1 s0_2 s0_3 s0_4 s0_5 s0_6 s0_7 s0_8 s0_9 s0_10 t599 t600 t601 t602 t605 t606 t607 t608 t609 t610 t611 t612 t613 t614 w0 _ HI0.out HB.out A2.out).mono ?_); rintro e w4 ⟨v603, rfl, ho0, hi, hb, hk⟩; refine ⟨_, rfl, ?_⟩; have n0_ := Aside0.mk (KeepBut.blk hk BK598.out NB598_0.out (by simp)); have n1_ := Aside0.mk (Kd.V_lower (Kd.V_mono (ok' := fun k_ => (w.heap.size ≤ k_) ∧ k_ ≠ gb598 ∧ k_ ≠ g) ho0 (fun k_ hk_ => ⟨(Nat.le_trans (keep_size HK.out) hk_), (Kd.freshB BK598.out k_ hk_), (IsS75.fresh HI0.out k_ hk_)⟩)) (keep_size HK.out)); have n2_ := Aside0.mk (KeepBut.trans HK.out hk (.inl rfl)); have n3_ := Aside0.mk (hb); have n4_ := Aside0.mk (hi); clear BK598 HK HB HI0; have BK598 := n0_; have HO604 := n1_; have HK := n2_; have HB := n3_; have HI0 := n4_; clear n0_ n1_ n2_ n3_ n4_ hb hk hi ho0; obtain ⟨Ao5, co5, eo5⟩ := Kd.V_slice HO604.out; subst eo5) | ((with_reducible refine gate_dst (N := 6) rfl ?_); refine Kd.N_lit k28 _ 28 ?hg (N' := 6) ?hd (xs := ([(⟨t599, t600, t601, t602⟩ : S28)] : List (S28))) (inner := [.int .i64 t599, .int .i64 t600, .int .i64 t601, .slice Ao5 t602.length co5]) (ok := (fun k_ => (w.heap.size ≤ k_) ∧ k_ ≠ gb598 ∧ k_ ≠ g)) (okp := (fun k_ => (w.heap.size ≤ k_) ∧ k_ ≠ gb598 ∧ k_ ≠ g)) ?hr ?hp (fun _ hk => hk) ((show ∀ k_, w4.heap.size ≤ k_ → (fun k_ => (w.heap.size ≤ k_) ∧ k_ ≠ gb598 ∧ k_ ≠ g) k_ from fun k_ hk => ⟨(Nat.le_trans (keep_size HK.out) hk), Kd.freshB BK598.out k_ hk, IsS75.fresh HI0.out k_ hk⟩) _ (Nat.le_refl _)) (Below.refl _ _) (Nat.le_refl _) (by simp) ?_; (case hd => rfl); (case hg => rfl); (case hr => (go_simp; done)); (case hp => exact (Reps.c4 (show Kd.FK k28 _ _ (⟨t599, t600, t601, t602⟩ : S28) [.int .i64 t599, .int .i64 t600, .int .i64 t601, .slice Ao5 t602.length co5] from (k28_mkF _ _ (⟨t599, t600, t601, t602⟩ : S28) (Kd.V_reads' (Kd.V_mono (ok' := (fun k_ => (w.heap.size ≤ k_) ∧ k_ ≠ gb598 ∧ k_ ≠ g)) (HO604.out) (fun k_ hk => ⟨hk.1, ⟨hk.2.1, hk.2.2⟩⟩))).2.1 (Kd.V_F (Kd.V_mono (ok' := (fun k_ => (w.heap.size ≤ k_) ∧ k_ ≠ gb598 ∧ k_ ≠ g)) (HO604.out) (fun k_ hk => ⟨hk.1, ⟨hk.2.1, hk.2.2⟩⟩))))) (Reps.none _ _))); intro v616 w6 ho7 hb hg_ hnew_; clear hg_ hnew_; (rw [← Ny615.out] at ho7); have n0_ := Aside0.mk (Kd.V_elder' HO604.out (Kd.N_base ho7) hb); have n1_ := Aside0.mk (Kd.N_lower ho7 (keep_size HK.out)); have n2_ := Aside0.mk (IsS75.below HI0.out hb); have n3_ := Aside0.mk (blk_below BK598.out hb); have n4_ := Aside0.mk (KeepBut.trans HK.out (KeepBut.of_below hb g none) (.inl rfl)); have n5_ := Aside0.mk (below_step HB.out hb); clear HO604 HI0 BK598 HK HB; have HO604 := n0_; have HO617 := n1_; have HI0 := n2_; have BK598 := n3_; have HK := n4_; have HB := n5_; clear n0_ n1_ n2_ n3_ n4_ n5_ hb ho7))
  go_loopg [3] k (fun kq v3 w' => ∃ (x3_1 : List (S28)) (x1001_1 : ByteArray) (x1002_1 : Int) (x1003_1 : Int) (x1004_1 : Int) (x1005_1 : ByteArray) (x1006_1 : Int) (x1007_1 : Int) (x1008_1 : Int) (x1009_1 : Int) (x1010_1 : Int), Aside0 (expr_parser_or.l0 kq x3_1 s0_0 x1001_1 x1002_1 x1003_1 x1004_1 x1005_1 x1006_1 x1007_1 x1008_1 x1009_1 x1010_1 = some (r1, r2, r3, r4, r5, r6, r7, r8, r9, r10, r11, r12, r13, r14)) ∧ Aside0 (kq ≤ k) ∧ Aside0 (Kd.N k28 28 w' w.heap.size (fun k_ => (w.heap.size ≤ k_) ∧ k_ ≠ gb598 ∧ k_ ≠ g) v3 x3_1) ∧ Aside0 (w'.heap[gb598]? = some (.cells #[.int .i64 0, .int .i64 0, .int .i64 0, (.slice none 0 0)] 28 (0, 0))) ∧ Aside0 (IsS75 w0 w' g s0_0 x1001_1 x1002_1 x1003_1 x1004_1 x1005_1 x1006_1 x1007_1 x1008_1 x1009_1 x1010_1) ∧ Aside0 (KeepBut w w' g none) ∧ Aside0 (Below w0.heap.size w0 w'))
  case atStart => exact ⟨(y615), (t605), (t606), (t607), (t608), (t609), (t610), (t611), (t612), (t613), (t614), H', ⟨Nat.le_refl _⟩, ⟨by exact HO617.out⟩, ⟨by exact BK598.out⟩, ⟨by with_reducible exact HI0.out⟩, ⟨by with_reducible exact HK.out⟩, ⟨by with_reducible exact HB.out⟩⟩
  case round =>
    clear H'
    obtain ⟨x3_1, x1001_1, x1002_1, x1003_1, x1004_1, x1005_1, x1006_1, x1007_1, x1008_1, x1009_1, x1010_1, HA, HK1, HO_3, BK598, HI0, HK, HB⟩ := hrel
    cases gk with
    | zero => exact absurd HA.out (by simp [expr_parser_or.l0])
    | succ k1 =>
      have H := HA.out
      clear HA
      simp only [expr_parser_or.l0] at H
      have HC8 := Aside0.mk H
      clear H
      go_upto_region 2 with (fail)
      go_cut [15] (fun v15 wc => ∃ (kq : Nat) (x15_7 : Bool) (x1001_7 : ByteArray) (x1002_7 : Int) (x1003_7 : Int) (x1004_7 : Int) (x1005_7 : ByteArray) (x1006_7 : Int) (x1007_7 : Int) (x1008_7 : Int) (x1009_7 : Int) (x1010_7 : Int), v15 = .bool x15_7 ∧ Aside0 (expr_parser_or.j1 kq x3_1 x15_7 s0_0 x1001_7 x1002_7 x1003_7 x1004_7 x1005_7 x1006_7 x1007_7 x1008_7 x1009_7 x1010_7 = some (r1, r2, r3, r4, r5, r6, r7, r8, r9, r10, r11, r12, r13, r14)) ∧ Aside0 (kq ≤ k1) ∧ Aside0 (Kd.N k28 28 wc w.heap.size (fun k_ => (w.heap.size ≤ k_) ∧ k_ ≠ gb598 ∧ k_ ≠ g) u3 x3_1) ∧ Aside0 (wc.heap[gb598]? = some (.cells #[.int .i64 0, .int .i64 0, .int .i64 0, (.slice none 0 0)] 28 (0, 0))) ∧ Aside0 (IsS75 w0 wc g s0_0 x1001_7 x1002_7 x1003_7 x1004_7 x1005_7 x1006_7 x1007_7 x1008_7 x1009_7 x1010_7) ∧ Aside0 (KeepBut w wc g none) ∧ Aside0 (Below w0.heap.size w0 wc))
      case first =>
        have H := HC8.out
        clear HC8
        by_cases c9 : x1009_1 = 0
        · rw [if_pos c9] at H
          have c9b0 : (x1009_1 == 0) = true := beq_iff_eq.mpr c9
          have c9b1 : (x1009_1 != 0) = false := bne_eq_false_iff_eq.mpr c9
          clear c9
          (skip)
          replace H := Option.bind_eq_some_iff.mp H
          obtain ⟨⟨t618, t619, t620, t621, t622, t623, t624, t625, t626, t627, t628⟩, A100, H⟩ := H
          try dsimp only at H
          have A10 := Aside0.mk A100
          clear A100
          have H' := Aside0.mk H
          clear H
          obtain ⟨ASz11_0, cSz11_0, HGz11, hgz11, HSz11_0, HDz11_0⟩ := HI0.out
          obtain ⟨hcz11_0, hcz11_1, hcz11_2, hcz11_3, hcz11_4, hcz11_5, hcz11_6, hcz11_7, hcz11_8, hcz11_9, hcz11_10, -, hfz11_1, hfz11_2, hfz11_3, hfz11_4, hfz11_5, hfz11_6, hfz11_7, hfz11_8, hfz11_9, hfz11_10⟩ := Go.Proofs.YtodbnnfiadcbaaaH.cells11 HGz11
          clear HGz11 hgz11
          go_wp2_with ((go_at_call 62; (with_reducible refine (expr_parser_is.calls g s0_0 x1001_1 x1002_1 x1003_1 x1004_1 x1005_1 x1006_1 x1007_1 x1008_1 x1009_1 x1010_1 124 t618 t619 t620 t621 t622 t623 t624 t625 t626 t627 t628 w0 _ HI0.out HB.out A10.out).mono ?_); rintro e w12 ⟨rfl, hi, hb, hk⟩; have n0_ := Aside0.mk (Kd.N_mono (Kd.N_keep (Kd.N_mono (ok := fun k_ => (((w.heap.size ≤ k_)) ∧ (k_ ≠ gb598 ∧ k_ ≠ g))) HO_3.out (fun k_ hk_ => (⟨hk_, hk_.2.2⟩ : _ ∧ k_ ≠ g))) hk (fun _ h => h.2)) (fun _ h => h.1)); have n1_ := Aside0.mk (KeepBut.blk hk BK598.out NB598_0.out (by simp)); have n2_ := Aside0.mk (KeepBut.trans HK.out hk (.inl rfl)); have n3_ := Aside0.mk (hb); have n4_ := Aside0.mk (hi); clear HO_3 BK598 HK HB HI0; have HO_3 := n0_; have BK598 := n1_; have HK := n2_; have HB := n3_; have HI0 := n4_; clear n0_ n1_ n2_ n3_ n4_ hb hk hi))
          go_meet
          case rel => exact ⟨_, (t618), (t619), (t620), (t621), (t622), (t623), (t624), (t625), (t626), (t627), (t628), (by rfl), H', ⟨by have := HK1.out; omega⟩, ⟨by exact HO_3.out⟩, ⟨by exact BK598.out⟩, ⟨by with_reducible exact HI0.out⟩, ⟨by with_reducible exact HK.out⟩, ⟨by with_reducible exact HB.out⟩⟩
        · rw [if_neg c9] at H
          have c9b0 : (x1009_1 == 0) = false := beq_eq_false_iff_ne.mpr c9
          have c9b1 : (x1009_1 != 0) = true := bne_iff_ne.mpr c9
          (skip)
          have H' := Aside0.mk H
          clear H
          obtain ⟨ASz13_0, cSz13_0, HGz13, hgz13, HSz13_0, HDz13_0⟩ := HI0.out
          obtain ⟨hcz13_0, hcz13_1, hcz13_2, hcz13_3, hcz13_4, hcz13_5, hcz13_6, hcz13_7, hcz13_8, hcz13_9, hcz13_10, -, hfz13_1, hfz13_2, hfz13_3, hfz13_4, hfz13_5, hfz13_6, hfz13_7, hfz13_8, hfz13_9, hfz13_10⟩ := Go.Proofs.YtodbnnfiadcbaaaH.cells11 HGz13
          clear HGz13 hgz13
          go_wp2
          go_meet
          case rel => exact ⟨_, (false), (x1001_1), (x1002_1), (x1003_1), (x1004_1), (x1005_1), (x1006_1), (x1007_1), (x1008_1), (x1009_1), (x1010_1), (by rfl), H', ⟨by have := HK1.out; omega⟩, ⟨by exact HO_3.out⟩, ⟨by exact BK598.out⟩, ⟨by with_reducible exact HI0.out⟩, ⟨by with_reducible exact HK.out⟩, ⟨by with_reducible exact HB.out⟩⟩
      case rest =>
        clear HC8
        obtain ⟨kq, x15_7, x1001_7, x1002_7, x1003_7, x1004_7, x1005_7, x1006_7, x1007_7, x1008_7, x1009_7, x1010_7, rfl, HA, HJ7, HO_3, BK598, HI0, HK, HB⟩ := hcut
        cases kq with
        | zero => exact absurd HA.out (by simp [expr_parser_or.j1])
        | succ kj7 =>
          have H := HA.out
          clear HA
          simp only [expr_parser_or.j1] at H
          by_cases c14 : x15_7 = true
          · subst c14
            rw [if_pos rfl] at H
            replace H := Option.bind_eq_some_iff.mp H
            obtain ⟨⟨t629, t630, t631, t632, t633, t634, t635, t636, t637, t638⟩, A150, H⟩ := H
            try dsimp only at H
            have A15 := Aside0.mk A150
            clear A150
            replace H := Option.bind_eq_some_iff.mp H
            obtain ⟨⟨t639, t640, t641, t642, t645, t646, t647, t648, t649, t650, t651, t652, t653, t654⟩, A160, H⟩ := H
            try dsimp only at H
            have A16 := Aside0.mk A160
            clear A160
            by_cases c17 : x3_1.length < 2932031007402
            · rw [if_pos c17] at H
              have LMc17 := Aside0.mk c17
              clear c17
              obtain ⟨y655, hy655⟩ : ∃ y_ : List (S28), y_ = (x3_1 ++ [(⟨t639, t640, t641, t642⟩ : S28)]) := ⟨_, rfl⟩
              replace H : (expr_parser_or.l0 kj7 y655 s0_0 t645 t646 t647 t648 t649 t650 t651 t652 t653 t654) = some (r1, r2, r3, r4, r5, r6, r7, r8, r9, r10, r11, r12, r13, r14) := by (rw [hy655]; with_reducible exact H)
              have Ny655 := Aside0.mk hy655
              clear hy655
              have H' := Aside0.mk H
              clear H
              go_wp2_with (first | ((with_reducible refine gate_callee (f := 40) rfl ?_); refine goesL_ (some 17) rfl rfl Try.func40 (by kernel_rfl) rfl #[.pointer (some ⟨g, 0, none⟩)] rfl (by (simp only [List.map_toArray, List.map_cons, List.map_nil]); rfl) ?_; (with_reducible refine (expr_parser_next.calls kj7 g s0_0 x1001_7 x1002_7 x1003_7 x1004_7 x1005_7 x1006_7 x1007_7 x1008_7 x1009_7 x1010_7 t629 t630 t631 t632 t633 t634 t635 t636 t637 t638 w0 _ HI0.out HB.out A15.out).mono ?_); rintro e w18 ⟨rfl, hi, hb, hk⟩; refine ⟨_, rfl, ?_⟩; have n0_ := Aside0.mk (Kd.N_mono (Kd.N_keep (Kd.N_mono (ok := fun k_ => (((w.heap.size ≤ k_)) ∧ (k_ ≠ gb598 ∧ k_ ≠ g))) HO_3.out (fun k_ hk_ => (⟨hk_, hk_.2.2⟩ : _ ∧ k_ ≠ g))) hk (fun _ h => h.2)) (fun _ h => h.1)); have n1_ := Aside0.mk (KeepBut.blk hk BK598.out NB598_0.out (by simp)); have n2_ := Aside0.mk (KeepBut.trans HK.out hk (.inl rfl)); have n3_ := Aside0.mk (hb); have n4_ := Aside0.mk (hi); clear HO_3 BK598 HK HB HI0; have HO_3 := n0_; have BK598 := n1_; have HK := n2_; have HB := n3_; have HI0 := n4_; clear n0_ n1_ n2_ n3_ n4_ hb hk hi) | ((with_reducible refine gate_callee (f := 61) rfl ?_); refine goesL_ (some 20) rfl rfl Try.func61 (by kernel_rfl) rfl #[.pointer (some ⟨g, 0, none⟩)] rfl (by (simp only [List.map_toArray, List.map_cons, List.map_nil]); rfl) ?_; (with_reducible refine (ih61 kj7 (by have := HK1.out; have := HJ7.out; omega) g s0_0 t629 t630 t631 t632 t633 t634 t635 t636 t637 t638 t639 t640 t641 t642 t645 t646 t647 t648 t649 t650 t651 t652 t653 t654 w0 _ HI0.out HB.out A16.out).mono ?_); rintro e w19 ⟨v643, rfl, ho0, hi, hb, hk⟩; refine ⟨_, rfl, ?_⟩; have n0_ := Aside0.mk (Kd.N_mono (Kd.N_keep (Kd.N_mono (ok := fun k_ => (((w.heap.size ≤ k_)) ∧ (k_ ≠ gb598 ∧ k_ ≠ g))) HO_3.out (fun k_ hk_ => (⟨hk_, hk_.2.2⟩ : _ ∧ k_ ≠ g))) hk (fun _ h => h.2)) (fun _ h => h.1)); have n1_ := Aside0.mk (KeepBut.blk hk BK598.out NB598_0.out (by simp)); have n2_ := Aside0.mk (Kd.V_lower (Kd.V_mono (ok' := fun k_ => (w.heap.size ≤ k_) ∧ some k_ ≠ (u3 : Value).ownBlock ∧ k_ ≠ gb598 ∧ k_ ≠ g) ho0 (fun k_ hk_ => ⟨(Nat.le_trans (keep_size HK.out) hk_), (Kd.fresh' (Kd.N_lt HO_3.out) k_ hk_), (Kd.freshB BK598.out k_ hk_), (IsS75.fresh HI0.out k_ hk_)⟩)) (keep_size HK.out)); have n3_ := Aside0.mk (KeepBut.trans HK.out hk (.inl rfl)); have n4_ := Aside0.mk (hb); have n5_ := Aside0.mk (hi); clear HO_3 BK598 HK HB HI0; have HO_3 := n0_; have BK598 := n1_; have HO644 := n2_; have HK := n3_; have HB := n4_; have HI0 := n5_; clear n0_ n1_ n2_ n3_ n4_ n5_ hb hk hi ho0; obtain ⟨Ao21, co21, eo21⟩ := Kd.V_slice HO644.out; subst eo21) | ((with_reducible refine gate_builtin (b := .append) (xs := #[.tmp 18, .tmp 21]) rfl ?_); at_builtin; refine Kd.N_append k28 w.heap.size rfl (.tmp 18) (.tmp 21) 26 28 (.agg #[(.int .i64 0), (.int .i64 0), (.int .i64 0), (.slice none 0 0)]) 48 rfl Try.underlying26 info28 rfl (by decide) (by omega) u3 x3_1 (⟨t639, t640, t641, t642⟩ : S28) [.int .i64 t639, .int .i64 t640, .int .i64 t641, .slice Ao21 t642.length co21] (fun k_ => (w.heap.size ≤ k_) ∧ k_ ≠ gb598 ∧ k_ ≠ g) (fun k_ => ((fun k_ => (w.heap.size ≤ k_) ∧ k_ ≠ gb598 ∧ k_ ≠ g)) k_ ∧ some k_ ≠ (u3 : Value).ownBlock) rfl rfl ?aP (fun _ hk => hk) ?aF ?aO (Below.refl _ _) ?aS ?aL ?_; (case aP => exact (k28_mkF _ _ (⟨t639, t640, t641, t642⟩ : S28) (Kd.V_reads' (Kd.V_mono (ok' := (fun k_ => ((fun k_ => (w.heap.size ≤ k_) ∧ k_ ≠ gb598 ∧ k_ ≠ g)) k_ ∧ some k_ ≠ (u3 : Value).ownBlock)) (HO644.out) (fun k_ hk => ⟨⟨hk.1, ⟨hk.2.2.1, hk.2.2.2⟩⟩, hk.2.1⟩))).2.1 (Kd.V_F (Kd.V_mono (ok' := (fun k_ => ((fun k_ => (w.heap.size ≤ k_) ∧ k_ ≠ gb598 ∧ k_ ≠ g)) k_ ∧ some k_ ≠ (u3 : Value).ownBlock)) (HO644.out) (fun k_ hk => ⟨⟨hk.1, ⟨hk.2.2.1, hk.2.2.2⟩⟩, hk.2.1⟩))))); (case aF => exact (fun k_ hk => ⟨(Nat.le_trans (keep_size HK.out) hk), Kd.freshB BK598.out k_ hk, IsS75.fresh HI0.out k_ hk⟩)); (case aO => exact HO_3.out); (case aS => exact (keep_size HK.out)); (case aL => have := LMc17.out; omega); intro v656 w20 ho hb hg hat; rw [← Ny655.out] at ho; have n0_ := Aside0.mk (blk_grown BK598.out hg (Kd.N_away HO_3.out (fun _ hk => hk.2.1))); have n1_ := Aside0.mk (IsS75.grown HI0.out hg (IsS75.own_neN HI0.out HO_3.out (by decide))); have n2_ := Aside0.mk (Kd.V_afterv (ok := (fun k_ => (w.heap.size ≤ k_) ∧ k_ ≠ gb598 ∧ k_ ≠ g)) (by exact Kd.V_mono HO644.out (fun _ hk => ⟨⟨hk.1, ⟨hk.2.2.1, hk.2.2.2⟩⟩, hk.2.1⟩)) hg hat); have n3_ := Aside0.mk (below_weaken HB.out HL.out hb); have n4_ := Aside0.mk (KeepBut.trans HK.out (KeepBut.of_grown hg g) (Kd.N_base2 HO_3.out)); have n5_ := Aside0.mk (ho); clear BK598 HI0 HO644 HB HK HO_3; have BK598 := n0_; have HI0 := n1_; have HO644 := n2_; have HB := n3_; have HK := n4_; have HO657 := n5_; clear n0_ n1_ n2_ n3_ n4_ n5_ ho hb hg hat))
              go_roundg kj7
              case measure => have := HK1.out; have := HJ7.out; omega
              case rel => exact ⟨(y655), (t645), (t646), (t647), (t648), (t649), (t650), (t651), (t652), (t653), (t654), H', ⟨by have := HK1.out; have := HJ7.out; omega⟩, ⟨by exact HO657.out⟩, ⟨by exact BK598.out⟩, ⟨by with_reducible exact HI0.out⟩, ⟨by with_reducible exact HK.out⟩, ⟨by with_reducible exact HB.out⟩⟩
            · rw [if_neg c17] at H
              exact absurd H (by simp)
          · replace c14 := Bool.eq_false_iff.mpr c14
            subst c14
            rw [if_neg (show ¬ (false = true) by decide)] at H
            replace H := Option.bind_eq_some_iff.mp H
            obtain ⟨⟨t658, t659, t660, t661⟩, A220, H⟩ := H
            try dsimp only at H
            have A22 := Aside0.mk A220
            clear A220
            simp only [Option.some.injEq, Prod.mk.injEq] at H
            obtain ⟨rfl, rfl, rfl, rfl, rfl, rfl, rfl, rfl, rfl, rfl, rfl, rfl, rfl, rfl⟩ := H
            obtain ⟨Ao23, co23, eo23⟩ := Kd.N_slice HO_3.out
            subst eo23
            go_wp2_with (((with_reducible refine gate_callee (f := 63) rfl ?_); refine goesL_ (some 24) rfl rfl Try.func63 (by kernel_rfl) rfl #[.int .i64 6, .slice Ao23 x3_1.length co23] rfl (by (simp only [List.map_toArray, List.map_cons, List.map_nil]); rfl) ?_; (with_reducible refine (expr_several.calls 6 (fun k_ => ((w.heap.size ≤ k_) ∧ (k_ ≠ gb598 ∧ k_ ≠ g))) _ _ x3_1 t658 t659 t660 t661 _ ?side1 A22.out).mono ?_); (case side1 => exact Kd.N_V (HO_3.out)); rintro e w24 ⟨v662, rfl, ho0, hb⟩; refine ⟨_, rfl, ?_⟩; have n0_ := Aside0.mk (Kd.N_below HO_3.out hb); have n1_ := Aside0.mk (Kd.V_lower (Kd.V_mono (ok' := fun k_ => (w.heap.size ≤ k_) ∧ k_ ≠ gb598 ∧ k_ ≠ g) ho0 (fun k_ hk_ => ⟨Or.elim hk_ (fun hs_ => hs_.1) (fun hn_ => (Nat.le_trans (keep_size HK.out) hn_)), Or.elim hk_ (fun hs_ => hs_.2.1) (fun hn_ => (Kd.freshB BK598.out k_ hn_)), Or.elim hk_ (fun hs_ => hs_.2.2) (fun hn_ => (IsS75.fresh HI0.out k_ hn_))⟩)) (keep_size HK.out)); have n2_ := Aside0.mk (blk_below BK598.out hb); have n3_ := Aside0.mk (IsS75.below HI0.out hb); have n4_ := Aside0.mk (KeepBut.trans HK.out (KeepBut.of_below hb g none) (.inl rfl)); have n5_ := Aside0.mk (below_step HB.out hb); clear HO_3 BK598 HI0 HK HB; have HO_3 := n0_; have HO663 := n1_; have BK598 := n2_; have HI0 := n3_; have HK := n4_; have HB := n5_; clear n0_ n1_ n2_ n3_ n4_ n5_ hb ho0; have hnb25 := NB598_0.out; have hnc25 := NB0_598.out; obtain ⟨hcz26_0, hcz26_1, hcz26_2, hcz26_3, hfz26_0, hfz26_1, hfz26_2, hfz26_3⟩ := Go.Proofs.YtodbnnfiadcbaaaH.cells4 BK598.out; obtain ⟨Ao27, co27, eo27⟩ := Kd.V_slice HO663.out; subst eo27))
            refine bodyPost_ret (results_cell_row rfl _ _ gb598 28 #[.int .i64 t658, .int .i64 t659, .int .i64 t660, .slice Ao27 t661.length co27] (0, 0) _ rfl (by refine blk_put (cs := #[.int .i64 t658, .int .i64 t659, .int .i64 t660, .slice none 0 0]) ?_ 3 _ rfl; refine blk_put (cs := #[.int .i64 t658, .int .i64 t659, .int .i64 0, .slice none 0 0]) ?_ 2 _ rfl; refine blk_put (cs := #[.int .i64 t658, .int .i64 0, .int .i64 0, .slice none 0 0]) ?_ 1 _ rfl; refine blk_put (cs := #[.int .i64 0, .int .i64 0, .int .i64 0, .slice none 0 0]) ?_ 0 _ rfl; exact BK598.out) Try.underlying28 rfl (by kernel_rfl)) rfl ?_
            exact ⟨_, by rfl, by exact Kd.V_mono (Kd.V_far (p := ⟨gb598, 3, none⟩) (Kd.V_far (p := ⟨gb598, 2, none⟩) (Kd.V_far (p := ⟨gb598, 1, none⟩) (Kd.V_far (p := ⟨gb598, 0, none⟩) (Kd.V_mono HO663.out (fun k_ hk => (⟨hk, hk.2.1⟩ : _ ∧ k_ ≠ gb598))) (fun _ hk => hk.2) (.int .i64 t658)) (fun _ hk => hk.2) (.int .i64 t659)) (fun _ hk => hk.2) (.int .i64 t660)) (fun _ hk => hk.2) (.slice Ao27 t661.length co27)) (fun _ hk => hk.1.1), by repeat ((with_reducible first | exact HI0.out | apply IsS75.far_ (hne := NB0_598.out))), by repeat ((with_reducible first | exact HB.out | refine below_set ?_ GE598.out)), by repeat ((with_reducible first | exact HK.out | refine keep_far ?_ GW598.out _))⟩

end Go.Proofs.Ytodbnnfiadcbaaa.P
namespace Go.Proofs.Ytodbnnfiadcbaaa.P
open Go.RowKit Go.Proofs.YtodbnnfiadcbaaaW.PrintWords Go.Proofs.YtodbnnfiadcbaaaW.PrintLast Go.Proofs.YtodbnnfiadcbaaaW.PrintMore
attribute [local go_sem] max2_int min2_int max_two min_two max_three min_three max_four min_four   -- for this text's walks alone
set_option linter.unusedVariables false
set_option linter.unusedSimpArgs false

theorem expr_parser_or.all_g : ∀ k, expr_parser_within.S k ∧ expr_parser_atom.S k ∧ expr_parser_rep.S k ∧ expr_parser_cat.S k ∧ expr_parser_or.S k := by
  intro k
  induction k using Nat.strongRecOn with
  | _ k ih =>
  exact ⟨expr_parser_within.step k (fun m hm => (ih m hm).2.2.2.2) (fun m hm => (ih m hm).2.2.2.1) (fun m hm => (ih m hm).2.2.1) (fun m hm => (ih m hm).2.1) (fun m hm => (ih m hm).1), expr_parser_atom.step k (fun m hm => (ih m hm).2.2.2.2) (fun m hm => (ih m hm).2.2.2.1) (fun m hm => (ih m hm).2.2.1) (fun m hm => (ih m hm).2.1) (fun m hm => (ih m hm).1), expr_parser_rep.step k (fun m hm => (ih m hm).2.2.2.2) (fun m hm => (ih m hm).2.2.2.1) (fun m hm => (ih m hm).2.2.1) (fun m hm => (ih m hm).2.1) (fun m hm => (ih m hm).1), expr_parser_cat.step k (fun m hm => (ih m hm).2.2.2.2) (fun m hm => (ih m hm).2.2.2.1) (fun m hm => (ih m hm).2.2.1) (fun m hm => (ih m hm).2.1) (fun m hm => (ih m hm).1), expr_parser_or.step k (fun m hm => (ih m hm).2.2.2.2) (fun m hm => (ih m hm).2.2.2.1) (fun m hm => (ih m hm).2.2.1) (fun m hm => (ih m hm).2.1) (fun m hm => (ih m hm).1)⟩
theorem expr_parser_within.calls (k : Nat) : ∀ (g : Nat) (s0_0 : List (S56)) (s0_1 : ByteArray) (s0_2 : Int) (s0_3 : Int) (s0_4 : Int) (s0_5 : ByteArray) (s0_6 : Int) (s0_7 : Int) (s0_8 : Int) (s0_9 : Int) (s0_10 : Int) (r1 : Int) (r2 : Int) (r3 : Int) (r4 : List (S28)) (r5 : ByteArray) (r6 : Int) (r7 : Int) (r8 : Int) (r9 : ByteArray) (r10 : Int) (r11 : Int) (r12 : Int) (r13 : Int) (r14 : Int) (w0 w : World) (hI : IsS75 w0 w g s0_0 s0_1 s0_2 s0_3 s0_4 s0_5 s0_6 s0_7 s0_8 s0_9 s0_10) (hB : Below w0.heap.size w0 w) (h : expr_parser_within.f k s0_0 s0_1 s0_2 s0_3 s0_4 s0_5 s0_6 s0_7 s0_8 s0_9 s0_10 = some (r1, r2, r3, r4, r5, r6, r7, r8, r9, r10, r11, r12, r13, r14)),
    Calls Try.prog 92 #[.pointer (some ⟨g, 0, none⟩)] w fun e w' => ∃ v3_ : Value, e = .returned (.agg #[.int .i64 r1, .int .i64 r2, .int .i64 r3, v3_]) ∧ Kd.V k28 28 w' w.heap.size (fun k_ => (w.heap.size ≤ k_)) v3_ r4 ∧ IsS75 w0 w' g s0_0 r5 r6 r7 r8 r9 r10 r11 r12 r13 r14 ∧ Below w0.heap.size w0 w' ∧ KeepBut w w' g none := (expr_parser_or.all_g k).1
theorem expr_parser_atom.calls (k : Nat) : ∀ (g : Nat) (s0_0 : List (S56)) (s0_1 : ByteArray) (s0_2 : Int) (s0_3 : Int) (s0_4 : Int) (s0_5 : ByteArray) (s0_6 : Int) (s0_7 : Int) (s0_8 : Int) (s0_9 : Int) (s0_10 : Int) (r1 : Int) (r2 : Int) (r3 : Int) (r4 : List (S28)) (r5 : ByteArray) (r6 : Int) (r7 : Int) (r8 : Int) (r9 : ByteArray) (r10 : Int) (r11 : Int) (r12 : Int) (r13 : Int) (r14 : Int) (w0 w : World) (hI : IsS75 w0 w g s0_0 s0_1 s0_2 s0_3 s0_4 s0_5 s0_6 s0_7 s0_8 s0_9 s0_10) (hB : Below w0.heap.size w0 w) (h : expr_parser_atom.f k s0_0 s0_1 s0_2 s0_3 s0_4 s0_5 s0_6 s0_7 s0_8 s0_9 s0_10 = some (r1, r2, r3, r4, r5, r6, r7, r8, r9, r10, r11, r12, r13, r14)),
    Calls Try.prog 86 #[.pointer (some ⟨g, 0, none⟩)] w fun e w' => ∃ v3_ : Value, e = .returned (.agg #[.int .i64 r1, .int .i64 r2, .int .i64 r3, v3_]) ∧ Kd.V k28 28 w' w.heap.size (fun k_ => (w.heap.size ≤ k_)) v3_ r4 ∧ IsS75 w0 w' g s0_0 r5 r6 r7 r8 r9 r10 r11 r12 r13 r14 ∧ Below w0.heap.size w0 w' ∧ KeepBut w w' g none := (expr_parser_or.all_g k).2.1
theorem expr_parser_rep.calls (k : Nat) : ∀ (g : Nat) (s0_0 : List (S56)) (s0_1 : ByteArray) (s0_2 : Int) (s0_3 : Int) (s0_4 : Int) (s0_5 : ByteArray) (s0_6 : Int) (s0_7 : Int) (s0_8 : Int) (s0_9 : Int) (s0_10 : Int) (r1 : Int) (r2 : Int) (r3 : Int) (r4 : List (S28)) (r5 : ByteArray) (r6 : Int) (r7 : Int) (r8 : Int) (r9 : ByteArray) (r10 : Int) (r11 : Int) (r12 : Int) (r13 : Int) (r14 : Int) (w0 w : World) (hI : IsS75 w0 w g s0_0 s0_1 s0_2 s0_3 s0_4 s0_5 s0_6 s0_7 s0_8 s0_9 s0_10) (hB : Below w0.heap.size w0 w) (h : expr_parser_rep.f k s0_0 s0_1 s0_2 s0_3 s0_4 s0_5 s0_6 s0_7 s0_8 s0_9 s0_10 = some (r1, r2, r3, r4, r5, r6, r7, r8, r9, r10, r11, r12, r13, r14)),
    Calls Try.prog 80 #[.pointer (some ⟨g, 0, none⟩)] w fun e w' => ∃ v3_ : Value, e = .returned (.agg #[.int .i64 r1, .int .i64 r2, .int .i64 r3, v3_]) ∧ Kd.V k28 28 w' w.heap.size (fun k_ => (w.heap.size ≤ k_)) v3_ r4 ∧ IsS75 w0 w' g s0_0 r5 r6 r7 r8 r9 r10 r11 r12 r13 r14 ∧ Below w0.heap.size w0 w' ∧ KeepBut w w' g none := (expr_parser_or.all_g k).2.2.1
theorem expr_parser_cat.calls (k : Nat) : ∀ (g : Nat) (s0_0 : List (S56)) (s0_1 : ByteArray) (s0_2 : Int) (s0_3 : Int) (s0_4 : Int) (s0_5 : ByteArray) (s0_6 : Int) (s0_7 : Int) (s0_8 : Int) (s0_9 : Int) (s0_10 : Int) (r1 : Int) (r2 : Int) (r3 : Int) (r4 : List (S28)) (r5 : ByteArray) (r6 : Int) (r7 : Int) (r8 : Int) (r9 : ByteArray) (r10 : Int) (r11 : Int) (r12 : Int) (r13 : Int) (r14 : Int) (w0 w : World) (hI : IsS75 w0 w g s0_0 s0_1 s0_2 s0_3 s0_4 s0_5 s0_6 s0_7 s0_8 s0_9 s0_10) (hB : Below w0.heap.size w0 w) (h : expr_parser_cat.f k s0_0 s0_1 s0_2 s0_3 s0_4 s0_5 s0_6 s0_7 s0_8 s0_9 s0_10 = some (r1, r2, r3, r4, r5, r6, r7, r8, r9, r10, r11, r12, r13, r14)),
    Calls Try.prog 61 #[.pointer (some ⟨g, 0, none⟩)] w fun e w' => ∃ v3_ : Value, e = .returned (.agg #[.int .i64 r1, .int .i64 r2, .int .i64 r3, v3_]) ∧ Kd.V k28 28 w' w.heap.size (fun k_ => (w.heap.size ≤ k_)) v3_ r4 ∧ IsS75 w0 w' g s0_0 r5 r6 r7 r8 r9 r10 r11 r12 r13 r14 ∧ Below w0.heap.size w0 w' ∧ KeepBut w w' g none := (expr_parser_or.all_g k).2.2.2.1
theorem expr_parser_or.calls (k : Nat) : ∀ (g : Nat) (s0_0 : List (S56)) (s0_1 : ByteArray) (s0_2 : Int) (s0_3 : Int) (s0_4 : Int) (s0_5 : ByteArray) (s0_6 : Int) (s0_7 : Int) (s0_8 : Int) (s0_9 : Int) (s0_10 : Int) (r1 : Int) (r2 : Int) (r3 : Int) (r4 : List (S28)) (r5 : ByteArray) (r6 : Int) (r7 : Int) (r8 : Int) (r9 : ByteArray) (r10 : Int) (r11 : Int) (r12 : Int) (r13 : Int) (r14 : Int) (w0 w : World) (hI : IsS75 w0 w g s0_0 s0_1 s0_2 s0_3 s0_4 s0_5 s0_6 s0_7 s0_8 s0_9 s0_10) (hB : Below w0.heap.size w0 w) (h : expr_parser_or.f k s0_0 s0_1 s0_2 s0_3 s0_4 s0_5 s0_6 s0_7 s0_8 s0_9 s0_10 = some (r1, r2, r3, r4, r5, r6, r7, r8, r9, r10, r11, r12, r13, r14)),
    Calls Try.prog 41 #[.pointer (some ⟨g, 0, none⟩)] w fun e w' => ∃ v3_ : Value, e = .returned (.agg #[.int .i64 r1, .int .i64 r2, .int .i64 r3, v3_]) ∧ Kd.V k28 28 w' w.heap.size (fun k_ => (w.heap.size ≤ k_)) v3_ r4 ∧ IsS75 w0 w' g s0_0 r5 r6 r7 r8 r9 r10 r11 r12 r13 r14 ∧ Below w0.heap.size w0 w' ∧ KeepBut w w' g none := (expr_parser_or.all_g k).2.2.2.2

end Go.Proofs.Ytodbnnfiadcbaaa.P
namespace Go.Proofs.Ytodbnnfiadcbaaa.P
open Go.RowKit Go.Proofs.YtodbnnfiadcbaaaW.PrintWords Go.Proofs.YtodbnnfiadcbaaaW.PrintLast Go.Proofs.YtodbnnfiadcbaaaW.PrintMore
attribute [local go_sem] max2_int min2_int max_two min_two max_three min_three max_four min_four   -- for this text's walks alone
set_option linter.unusedVariables false
set_option linter.unusedSimpArgs false

/-! ### expr_Parse: function 19 -/
def expr_Parse.j0 : Nat → List (S56) → List (S56) → ByteArray → Int → Int → Int → ByteArray → Int → Int → Int → Int → Int → Int → Int → Int → List (S28) → Option (Int × Int × Int × (List (S28)) × Int × Int)
  | 0, _, _, _, _, _, _, _, _, _, _, _, _, _, _, _, _ => none
  | k + 1, x0, x666000, x666001, x666002, x666003, x666004, x666005, x666006, x666007, x666008, x666009, x666010, x693000, x693001, x693002, x693003 => if x666009 = 0 then ((expr_Check.f k x0 x693000 x693001 x693002 x693003).bind fun t703 => (if t703 = 0 then (some (x693000, x693001, x693002, x693003, 0, 0)) else (some (0, 0, 0, ([] : List (S28)), 0, t703)))) else (some (0, 0, 0, ([] : List (S28)), x666010, x666009))
def expr_Parse.f (k : Nat) (l0 : List (S56)) (a1 : ByteArray) : Option (Int × Int × Int × (List (S28)) × Int × Int) := if (a1.size : Int) > 2000 then (some (0, 0, 0, ([] : List (S28)), 0, 2)) else ((expr_parser_next.f k l0 a1 0 0 0 (⟨#[]⟩ : ByteArray) 0 0 0 0 0).bind fun bt666 => ((expr_parser_or.f k l0 bt666.1 bt666.2.1 bt666.2.2.1 bt666.2.2.2.1 bt666.2.2.2.2.1 bt666.2.2.2.2.2.1 bt666.2.2.2.2.2.2.1 bt666.2.2.2.2.2.2.2.1 bt666.2.2.2.2.2.2.2.2.1 bt666.2.2.2.2.2.2.2.2.2).bind fun bt676 => (if bt676.2.2.2.2.2.2.2.1 = 1 then (expr_Parse.j0 k l0 l0 bt676.2.2.2.2.1 bt676.2.2.2.2.2.1 bt676.2.2.2.2.2.2.1 bt676.2.2.2.2.2.2.2.1 bt676.2.2.2.2.2.2.2.2.1 bt676.2.2.2.2.2.2.2.2.2.1 bt676.2.2.2.2.2.2.2.2.2.2.1 bt676.2.2.2.2.2.2.2.2.2.2.2.1 bt676.2.2.2.2.2.2.2.2.2.2.2.2.1 bt676.2.2.2.2.2.2.2.2.2.2.2.2.2 bt676.1 bt676.2.1 bt676.2.2.1 bt676.2.2.2.1) else ((expr_parser_wrong.f l0 bt676.2.2.2.2.1 bt676.2.2.2.2.2.1 bt676.2.2.2.2.2.2.1 bt676.2.2.2.2.2.2.2.1 bt676.2.2.2.2.2.2.2.2.1 bt676.2.2.2.2.2.2.2.2.2.1 bt676.2.2.2.2.2.2.2.2.2.2.1 bt676.2.2.2.2.2.2.2.2.2.2.2.1 bt676.2.2.2.2.2.2.2.2.2.2.2.2.1 bt676.2.2.2.2.2.2.2.2.2.2.2.2.2 1).bind fun bt693 => (expr_Parse.j0 k l0 l0 bt693.1 bt693.2.1 bt693.2.2.1 bt693.2.2.2.1 bt693.2.2.2.2.1 bt693.2.2.2.2.2.1 bt693.2.2.2.2.2.2.1 bt693.2.2.2.2.2.2.2.1 bt693.2.2.2.2.2.2.2.2.1 bt693.2.2.2.2.2.2.2.2.2 bt676.1 bt676.2.1 bt676.2.2.1 bt676.2.2.2.1)))))
theorem expr_Parse.mono_l : ∀ k, (∀ y0 y1 y2 y3 y4 y5 y6 y7 y8 y9 y10 y11 y12 y13 y14 y15, LeO (expr_Parse.j0 k y0 y1 y2 y3 y4 y5 y6 y7 y8 y9 y10 y11 y12 y13 y14 y15) (expr_Parse.j0 (k + 1) y0 y1 y2 y3 y4 y5 y6 y7 y8 y9 y10 y11 y12 y13 y14 y15))
  | 0 => fun _ _ _ _ _ _ _ _ _ _ _ _ _ _ _ _ r h => by simp [expr_Parse.j0] at h
  | k + 1 => by
    have ih0 := expr_Parse.mono_l k
    · intro y0 y1 y2 y3 y4 y5 y6 y7 y8 y9 y10 y11 y12 y13 y14 y15
      unfold expr_Parse.j0
      repeat' first
      | (with_reducible exact expr_Check.mono _ _ _ _ _ _)
      | (with_reducible exact LeO.refl _)
      | (with_reducible refine LeO.ite ?_ ?_)
      | (with_reducible refine LeO.bind ?_ (fun _ => ?_))
theorem expr_Parse.mono : ∀ a0 a1 k, LeO (expr_Parse.f k a0 a1) (expr_Parse.f (k + 1) a0 a1) := by
  intro a0 a1 k
  have ih0 := expr_Parse.mono_l k
  unfold expr_Parse.f
  repeat' first
      | (with_reducible exact ih0 _ _ _ _ _ _ _ _ _ _ _ _ _ _ _ _)
      | (with_reducible exact expr_parser_next.mono _ _ _ _ _ _ _ _ _ _ _ _)
      | (with_reducible exact expr_parser_or.mono _ _ _ _ _ _ _ _ _ _ _ _)
      | (with_reducible exact LeO.refl _)
      | (with_reducible refine LeO.ite ?_ ?_)
      | (with_reducible refine LeO.bind ?_ (fun _ => ?_))
set_option maxHeartbeats 8000000 in
set_option maxRecDepth 100000 in
theorem expr_Parse.calls (k : Nat) (A0 : Option Addr) (c0 : Nat) (l0 : List (S56)) (a1 : ByteArray) (r1 : Int) (r2 : Int) (r3 : Int) (r4 : List (S28)) (r5 : Int) (r6 : Int) (w : World) (hr0 : Kd.C k56 w A0 l0.length l0) (hc0 : l0.length ≤ c0) (h : expr_Parse.f k l0 a1 = some (r1, r2, r3, r4, r5, r6)) :
    Calls Try.prog 19 #[.slice A0 l0.length c0, .string a1] w fun e w' => ∃ v3_ : Value, e = .returned (.tuple #[.agg #[.int .i64 r1, .int .i64 r2, .int .i64 r3, v3_], .int .i64 r5, .int .i64 r6]) ∧ Kd.V k28 28 w' w.heap.size (fun k_ => (w.heap.size ≤ k_)) v3_ r4 ∧ Below w.heap.size w w' := by
  have hu28 := Try.underlying28
  have hu75 := Try.underlying75
  have HR0 := Aside0.mk hr0
  have HC0 := Aside0.mk hc0
  clear hr0 hc0
  have HB := Aside0.mk (Below.refl w.heap.size w)
  have H : (if (a1.size : Int) > 2000 then (some (0, 0, 0, ([] : List (S28)), 0, 2)) else ((expr_parser_next.f k l0 a1 0 0 0 (⟨#[]⟩ : ByteArray) 0 0 0 0 0).bind fun bt666 => ((expr_parser_or.f k l0 bt666.1 bt666.2.1 bt666.2.2.1 bt666.2.2.2.1 bt666.2.2.2.2.1 bt666.2.2.2.2.2.1 bt666.2.2.2.2.2.2.1 bt666.2.2.2.2.2.2.2.1 bt666.2.2.2.2.2.2.2.2.1 bt666.2.2.2.2.2.2.2.2.2).bind fun bt676 => (if bt676.2.2.2.2.2.2.2.1 = 1 then (expr_Parse.j0 k l0 l0 bt676.2.2.2.2.1 bt676.2.2.2.2.2.1 bt676.2.2.2.2.2.2.1 bt676.2.2.2.2.2.2.2.1 bt676.2.2.2.2.2.2.2.2.1 bt676.2.2.2.2.2.2.2.2.2.1 bt676.2.2.2.2.2.2.2.2.2.2.1 bt676.2.2.2.2.2.2.2.2.2.2.2.1 bt676.2.2.2.2.2.2.2.2.2.2.2.2.1 bt676.2.2.2.2.2.2.2.2.2.2.2.2.2 bt676.1 bt676.2.1 bt676.2.2.1 bt676.2.2.2.1) else ((expr_parser_wrong.f l0 bt676.2.2.2.2.1 bt676.2.2.2.2.2.1 bt676.2.2.2.2.2.2.1 bt676.2.2.2.2.2.2.2.1 bt676.2.2.2.2.2.2.2.2.1 bt676.2.2.2.2.2.2.2.2.2.1 bt676.2.2.2.2.2.2.2.2.2.2.1 bt676.2.2.2.2.2.2.2.2.2.2.2.1 bt676.2.2.2.2.2.2.2.2.2.2.2.2.1 bt676.2.2.2.2.2.2.2.2.2.2.2.2.2 1).bind fun bt693 => (expr_Parse.j0 k l0 l0 bt693.1 bt693.2.1 bt693.2.2.1 bt693.2.2.2.1 bt693.2.2.2.2.1 bt693.2.2.2.2.2.1 bt693.2.2.2.2.2.2.1 bt693.2.2.2.2.2.2.2.1 bt693.2.2.2.2.2.2.2.2.1 bt693.2.2.2.2.2.2.2.2.2 bt676.1 bt676.2.1 bt676.2.2.1 bt676.2.2.2.1)))))) = some (r1, r2, r3, r4, r5, r6) := h
  clear h
  by_cases c3 : (a1.size : Int) > 2000
  · rw [if_pos c3] at H
    have c3b0 : decide (2000 < (a1.size : Int)) = true := decide_eq_true c3
    have c3b1 : decide (2000 < a1.size) = true := decide_eq_true (by omega)
    clear c3
    simp only [Option.some.injEq, Prod.mk.injEq] at H
    obtain ⟨rfl, rfl, rfl, rfl, rfl, rfl⟩ := H
    go_enter Try.func19, Try.ntmps19
    go_wp2_with (((with_reducible refine gate_dst (N := 4) rfl ?_); refine box_event ?hg (N := 4) ?hd (cs := #[.int .i64 0, .int .i64 0, .int .i64 0, .slice none 0 0]) (t := 28) ?hr ?_; (case hd => rfl); (case hg => rfl); (case hr => (go_simp; done)); intro gb664 hg w4 hbox hb; have n0_ := Aside0.mk (below_step HB.out hb); have n1_ := Aside0.mk (hbox); have n2_ := Aside0.mk ((by rw [hg]; exact (below_size HB.out) : w.heap.size ≤ gb664)); have n3_ := Aside0.mk ((by rw [hg]; exact (below_size HB.out) : w.heap.size ≤ gb664)); clear HB; have HB := n0_; have BK664 := n1_; have GW664 := n2_; have GE664 := n3_; clear n0_ n1_ n2_ n3_ hb hbox hg; obtain ⟨hcz5_0, hcz5_1, hcz5_2, hcz5_3, hfz5_0, hfz5_1, hfz5_2, hfz5_3⟩ := Go.Proofs.YtodbnnfiadcbaaaH.cells4 BK664.out))
    repeat (go_quiet (fail); try go_wp2_with (fail))
    refine bodyPost_ret (results_ctt rfl _ _ gb664 28 #[.int .i64 0, .int .i64 0, .int .i64 0, .slice none 0 0] (0, 0) _ rfl (by refine blk_put (cs := #[.int .i64 0, .int .i64 0, .int .i64 0, .slice none 0 0]) ?_ 3 _ rfl; refine blk_put (cs := #[.int .i64 0, .int .i64 0, .int .i64 0, .slice none 0 0]) ?_ 2 _ rfl; refine blk_put (cs := #[.int .i64 0, .int .i64 0, .int .i64 0, .slice none 0 0]) ?_ 1 _ rfl; refine blk_put (cs := #[.int .i64 0, .int .i64 0, .int .i64 0, .slice none 0 0]) ?_ 0 _ rfl; exact BK664.out) Try.underlying28 rfl (by kernel_rfl)) rfl ?_
    exact ⟨_, by rfl, (Kd.V_nil _ _ _ _ _), by repeat ((with_reducible first | exact HB.out | refine below_set ?_ GE664.out))⟩
  · rw [if_neg c3] at H
    have c3b0 : decide (2000 < (a1.size : Int)) = false := decide_eq_false c3
    have c3b1 : decide (2000 < a1.size) = false := decide_eq_false (by omega)
    clear c3
    replace H := Option.bind_eq_some_iff.mp H
    obtain ⟨⟨t666, t667, t668, t669, t670, t671, t672, t673, t674, t675⟩, A60, H⟩ := H
    try dsimp only at H
    have A6 := Aside0.mk A60
    clear A60
    replace H := Option.bind_eq_some_iff.mp H
    obtain ⟨⟨t676, t677, t678, t679, t682, t683, t684, t685, t686, t687, t688, t689, t690, t691⟩, A70, H⟩ := H
    try dsimp only at H
    have A7 := Aside0.mk A70
    clear A70
    have HC8 := Aside0.mk H
    clear H
    go_enter Try.func19, Try.ntmps19
    go_upto_if 27 with (first | ((with_reducible refine gate_dst (N := 4) rfl ?_); refine box_event ?hg (N := 4) ?hd (cs := #[.int .i64 0, .int .i64 0, .int .i64 0, .slice none 0 0]) (t := 28) ?hr ?_; (case hd => rfl); (case hg => rfl); (case hr => (go_simp; done)); intro gb664 hg w9 hbox hb; have n0_ := Aside0.mk (below_step HB.out hb); have n1_ := Aside0.mk (hbox); have n2_ := Aside0.mk ((by rw [hg]; exact (below_size HB.out) : w.heap.size ≤ gb664)); have n3_ := Aside0.mk ((by rw [hg]; exact (below_size HB.out) : w.heap.size ≤ gb664)); clear HB; have HB := n0_; have BK664 := n1_; have GW664 := n2_; have GE664 := n3_; clear n0_ n1_ n2_ n3_ hb hbox hg) | ((with_reducible refine gate_dst (N := 17) rfl ?_); refine box_event ?hg (N := 17) ?hd (cs := #[.slice A0 l0.length c0, .string a1, .int .i64 0, .int .i64 0, .int .i64 0, .string (⟨#[]⟩ : ByteArray), .int .i64 0, .int .u8 0, .int .i64 0, .int .i64 0, .int .i64 0]) (t := 75) ?hr ?_; (case hd => rfl); (case hg => rfl); (case hr => (go_simp; done)); intro gb665 hg w10 hbox hb; have n0_ := Aside0.mk (blk_below BK664.out hb); have n1_ := Aside0.mk (below_step HB.out hb); have n2_ := Aside0.mk (hbox); have n3_ := Aside0.mk ((by rw [hg]; exact (below_size HB.out) : w.heap.size ≤ gb665)); have n4_ := Aside0.mk ((by rw [hg]; exact (below_size HB.out) : w.heap.size ≤ gb665)); have n5_ := Aside0.mk ((by rw [hg]; exact Nat.ne_of_lt (blk_lt BK664.out) : gb664 ≠ gb665)); have n6_ := Aside0.mk ((by rw [hg]; exact Nat.ne_of_gt (blk_lt BK664.out) : gb665 ≠ gb664)); clear BK664 HB; have BK664 := n0_; have HB := n1_; have BK665 := n2_; have GW665 := n3_; have GE665 := n4_; have NB664_665 := n5_; have NB665_664 := n6_; clear n0_ n1_ n2_ n3_ n4_ n5_ n6_ hb hbox hg; have HI665 := Aside0.mk (show IsS75 w w10 gb665 l0 a1 0 0 0 (⟨#[]⟩ : ByteArray) 0 0 0 0 0 from ⟨_, _, BK665.out, GE665.out, HR0.out, HC0.out⟩)) | (go_at_call 40; (with_reducible refine (expr_parser_next.calls k gb665 l0 a1 0 0 0 (⟨#[]⟩ : ByteArray) 0 0 0 0 0 t666 t667 t668 t669 t670 t671 t672 t673 t674 t675 w _ HI665.out HB.out A6.out).mono ?_); rintro e w11 ⟨rfl, hi, hb, hk⟩; have n0_ := Aside0.mk (KeepBut.blk hk BK664.out NB664_665.out (by simp)); have n1_ := Aside0.mk (hb); have n2_ := Aside0.mk (hi); clear BK664 HB HI665; have BK664 := n0_; have HB := n1_; have HI665 := n2_; clear n0_ n1_ n2_ hb hk hi) | (go_at_call 41; (with_reducible refine (expr_parser_or.calls k gb665 l0 t666 t667 t668 t669 t670 t671 t672 t673 t674 t675 t676 t677 t678 t679 t682 t683 t684 t685 t686 t687 t688 t689 t690 t691 w _ HI665.out HB.out A7.out).mono ?_); rintro e w12 ⟨v680, rfl, ho0, hi, hb, hk⟩; have n0_ := Aside0.mk (KeepBut.blk hk BK664.out NB664_665.out (by simp)); have n1_ := Aside0.mk (Kd.V_lower (Kd.V_mono (ok' := fun k_ => (w.heap.size ≤ k_) ∧ k_ ≠ gb664 ∧ k_ ≠ gb665) ho0 (fun k_ hk_ => ⟨(Nat.le_trans (below_size HB.out) hk_), (Kd.freshB BK664.out k_ hk_), (IsS75.fresh HI665.out k_ hk_)⟩)) (below_size HB.out)); have n2_ := Aside0.mk (hb); have n3_ := Aside0.mk (hi); clear BK664 HB HI665; have BK664 := n0_; have HO681 := n1_; have HB := n2_; have HI665 := n3_; clear n0_ n1_ n2_ n3_ hb hk hi ho0) | ((with_reducible refine gate_dst (N := 8) rfl ?_); refine box_event ?hg (N := 8) ?hd (cs := #[.int .i64 0, .int .i64 0, .int .i64 0, .slice none 0 0]) (t := 28) ?hr ?_; (case hd => rfl); (case hg => rfl); (case hr => (go_simp; done)); intro gb692 hg w13 hbox hb; have n0_ := Aside0.mk (Kd.V_below (Kd.V_elderB HO681.out gb692 (Nat.le_of_eq hg.symm)) hb); have n1_ := Aside0.mk (blk_below BK664.out hb); have n2_ := Aside0.mk (IsS75.below HI665.out hb); have n3_ := Aside0.mk (below_step HB.out hb); have n4_ := Aside0.mk (hbox); have n5_ := Aside0.mk ((by rw [hg]; exact (below_size HB.out) : w.heap.size ≤ gb692)); have n6_ := Aside0.mk ((by rw [hg]; exact (below_size HB.out) : w.heap.size ≤ gb692)); have n7_ := Aside0.mk ((by rw [hg]; exact Nat.ne_of_lt (blk_lt BK664.out) : gb664 ≠ gb692)); have n8_ := Aside0.mk ((by rw [hg]; exact Nat.ne_of_gt (blk_lt BK664.out) : gb692 ≠ gb664)); have n9_ := Aside0.mk ((by rw [hg]; exact Nat.ne_of_lt (IsS75.lt HI665.out) : gb665 ≠ gb692)); have n10_ := Aside0.mk ((by rw [hg]; exact Nat.ne_of_gt (IsS75.lt HI665.out) : gb692 ≠ gb665)); clear HO681 BK664 HI665 HB; have HO681 := n0_; have BK664 := n1_; have HI665 := n2_; have HB := n3_; have BK692 := n4_; have GW692 := n5_; have GE692 := n6_; have NB664_692 := n7_; have NB692_664 := n8_; have NB665_692 := n9_; have NB692_665 := n10_; clear n0_ n1_ n2_ n3_ n4_ n5_ n6_ n7_ n8_ n9_ n10_ hb hbox hg; have hnb14 := NB692_664.out; have hnc14 := NB664_692.out; have hnb15 := NB692_665.out; have hnc15 := NB665_692.out; obtain ⟨hcz16_0, hcz16_1, hcz16_2, hcz16_3, hfz16_0, hfz16_1, hfz16_2, hfz16_3⟩ := Go.Proofs.YtodbnnfiadcbaaaH.cells4 BK692.out; obtain ⟨Ao17, co17, eo17⟩ := Kd.V_slice HO681.out; subst eo17; obtain ⟨ASz18_0, cSz18_0, HGz18, hgz18, HSz18_0, HDz18_0⟩ := HI665.out; obtain ⟨hcz18_0, hcz18_1, hcz18_2, hcz18_3, hcz18_4, hcz18_5, hcz18_6, hcz18_7, hcz18_8, hcz18_9, hcz18_10, -, hfz18_1, hfz18_2, hfz18_3, hfz18_4, hfz18_5, hfz18_6, hfz18_7, hfz18_8, hfz18_9, hfz18_10⟩ := Go.Proofs.YtodbnnfiadcbaaaH.cells11 HGz18; clear HGz18 hgz18))
    repeat (go_quiet (fail); go_upto_if 27 with (fail))
    (skip)
    go_cut [] (fun wc => ∃ (kq : Nat) (x666001_7 : ByteArray) (x666002_7 : Int) (x666003_7 : Int) (x666004_7 : Int) (x666005_7 : ByteArray) (x666006_7 : Int) (x666007_7 : Int) (x666008_7 : Int) (x666009_7 : Int) (x666010_7 : Int), Aside0 (expr_Parse.j0 kq l0 l0 x666001_7 x666002_7 x666003_7 x666004_7 x666005_7 x666006_7 x666007_7 x666008_7 x666009_7 x666010_7 t676 t677 t678 t679 = some (r1, r2, r3, r4, r5, r6)) ∧ Aside0 (kq ≤ k) ∧ Aside0 (Kd.V k28 28 wc w.heap.size (fun k_ => (w.heap.size ≤ k_) ∧ k_ ≠ gb664 ∧ k_ ≠ gb692 ∧ k_ ≠ gb665) (.slice Ao17 t679.length co17) t679) ∧ Aside0 (wc.heap[gb664]? = some (.cells #[.int .i64 0, .int .i64 0, .int .i64 0, (.slice none 0 0)] 28 (0, 0))) ∧ Aside0 (wc.heap[gb692]? = some (.cells #[.int .i64 t676, .int .i64 t677, .int .i64 t678, (.slice Ao17 t679.length co17)] 28 (0, 0))) ∧ Aside0 (IsS75 w wc gb665 l0 x666001_7 x666002_7 x666003_7 x666004_7 x666005_7 x666006_7 x666007_7 x666008_7 x666009_7 x666010_7) ∧ Aside0 (Below w.heap.size w wc))
    case first =>
      have H := HC8.out
      clear HC8
      by_cases c19 : t685 = 1
      · rw [if_pos c19] at H
        have c19b0 : (t685 == 1) = true := beq_iff_eq.mpr c19
        have c19b1 : (t685 != 1) = false := bne_eq_false_iff_eq.mpr c19
        clear c19
        (skip)
        have H' := Aside0.mk H
        clear H
        go_wp2
        repeat ((fail); try go_wp2)
        go_meet
        case rel => exact ⟨_, (t682), (t683), (t684), (t685), (t686), (t687), (t688), (t689), (t690), (t691), H', ⟨by omega⟩, ⟨by exact Kd.V_mono (Kd.V_far (p := ⟨gb692, 3, none⟩) (Kd.V_far (p := ⟨gb692, 2, none⟩) (Kd.V_far (p := ⟨gb692, 1, none⟩) (Kd.V_far (p := ⟨gb692, 0, none⟩) (Kd.V_mono HO681.out (fun k_ hk => (⟨hk, hk.2⟩ : _ ∧ k_ ≠ gb692))) (fun _ hk => hk.2) (.int .i64 t676)) (fun _ hk => hk.2) (.int .i64 t677)) (fun _ hk => hk.2) (.int .i64 t678)) (fun _ hk => hk.2) (.slice Ao17 t679.length co17)) (fun _ hk => ⟨hk.1.1.1, ⟨hk.1.1.2.1, ⟨hk.1.2, hk.1.1.2.2⟩⟩⟩)⟩, ⟨by refine blk_far ?_ NB664_692.out _; refine blk_far ?_ NB664_692.out _; refine blk_far ?_ NB664_692.out _; refine blk_far ?_ NB664_692.out _; exact BK664.out⟩, ⟨by refine blk_put (cs := #[.int .i64 t676, .int .i64 t677, .int .i64 t678, .slice none 0 0]) ?_ 3 _ rfl; refine blk_put (cs := #[.int .i64 t676, .int .i64 t677, .int .i64 0, .slice none 0 0]) ?_ 2 _ rfl; refine blk_put (cs := #[.int .i64 t676, .int .i64 0, .int .i64 0, .slice none 0 0]) ?_ 1 _ rfl; refine blk_put (cs := #[.int .i64 0, .int .i64 0, .int .i64 0, .slice none 0 0]) ?_ 0 _ rfl; exact BK692.out⟩, ⟨by repeat ((with_reducible first | exact HI665.out | apply IsS75.far_ (hne := NB665_692.out)))⟩, ⟨by repeat ((with_reducible first | exact HB.out | refine below_set ?_ GE692.out))⟩⟩
      · rw [if_neg c19] at H
        have c19b0 : (t685 == 1) = false := beq_eq_false_iff_ne.mpr c19
        have c19b1 : (t685 != 1) = true := bne_iff_ne.mpr c19
        (skip)
        replace H := Option.bind_eq_some_iff.mp H
        obtain ⟨⟨t693, t694, t695, t696, t697, t698, t699, t700, t701, t702⟩, A200, H⟩ := H
        try dsimp only at H
        have A20 := Aside0.mk A200
        clear A200
        have H' := Aside0.mk H
        clear H
        go_wp2_with ((go_at_call 42; (with_reducible refine (expr_parser_wrong.calls gb665 l0 t682 t683 t684 t685 t686 t687 t688 t689 t690 t691 1 t693 t694 t695 t696 t697 t698 t699 t700 t701 t702 w _ ?side1 ?side2 A20.out).mono ?_); (case side1 => repeat ((with_reducible first | exact HI665.out | apply IsS75.far_ (hne := NB665_692.out)))); (case side2 => repeat ((with_reducible first | exact HB.out | refine below_set ?_ GE692.out))); rintro e w21 ⟨rfl, hi, hb, hk⟩; have n0_ := Aside0.mk (KeepBut.blk hk (g' := gb664) (o := .cells #[.int .i64 0, .int .i64 0, .int .i64 0, .slice none 0 0] 28 (0, 0)) (by refine blk_far ?_ NB664_692.out _; refine blk_far ?_ NB664_692.out _; refine blk_far ?_ NB664_692.out _; refine blk_far ?_ NB664_692.out _; exact BK664.out) NB664_665.out (by simp)); have n1_ := Aside0.mk (Kd.V_mono (Kd.V_keep (Kd.V_mono (ok := fun k_ => ((((w.heap.size ≤ k_)) ∧ (k_ ≠ gb664 ∧ k_ ≠ gb665)) ∧ k_ ≠ gb692)) (by exact (Kd.V_mono (Kd.V_far (p := ⟨gb692, 3, none⟩) (Kd.V_far (p := ⟨gb692, 2, none⟩) (Kd.V_far (p := ⟨gb692, 1, none⟩) (Kd.V_far (p := ⟨gb692, 0, none⟩) (Kd.V_mono HO681.out (fun k_ hk => (⟨hk, hk.2⟩ : _ ∧ k_ ≠ gb692))) (fun _ hk => hk.2) (.int .i64 t676)) (fun _ hk => hk.2) (.int .i64 t677)) (fun _ hk => hk.2) (.int .i64 t678)) (fun _ hk => hk.2) (.slice Ao17 t679.length co17)) (fun _ h_ => h_.1))) (fun k_ hk_ => (⟨hk_, hk_.1.2.2⟩ : _ ∧ k_ ≠ gb665))) hk (fun _ h => h.2)) (fun _ h => h.1)); have n2_ := Aside0.mk (KeepBut.blk hk (g' := gb692) (o := .cells #[.int .i64 t676, .int .i64 t677, .int .i64 t678, .slice Ao17 t679.length co17] 28 (0, 0)) (by refine blk_put (cs := #[.int .i64 t676, .int .i64 t677, .int .i64 t678, .slice none 0 0]) ?_ 3 _ rfl; refine blk_put (cs := #[.int .i64 t676, .int .i64 t677, .int .i64 0, .slice none 0 0]) ?_ 2 _ rfl; refine blk_put (cs := #[.int .i64 t676, .int .i64 0, .int .i64 0, .slice none 0 0]) ?_ 1 _ rfl; refine blk_put (cs := #[.int .i64 0, .int .i64 0, .int .i64 0, .slice none 0 0]) ?_ 0 _ rfl; exact BK692.out) NB692_665.out (by simp)); have n3_ := Aside0.mk (hb); have n4_ := Aside0.mk (hi); clear BK664 HO681 BK692 HB HI665; have BK664 := n0_; have HO681 := n1_; have BK692 := n2_; have HB := n3_; have HI665 := n4_; clear n0_ n1_ n2_ n3_ n4_ hb hk hi))
        repeat (go_quiet (fail); try go_wp2_with (fail))
        go_meet
        case rel => exact ⟨_, (t693), (t694), (t695), (t696), (t697), (t698), (t699), (t700), (t701), (t702), H', ⟨by omega⟩, ⟨by exact Kd.V_mono HO681.out (fun _ hk => ⟨hk.1.1, ⟨hk.1.2.1, ⟨hk.2, hk.1.2.2⟩⟩⟩)⟩, ⟨by exact BK664.out⟩, ⟨by exact BK692.out⟩, ⟨by with_reducible exact HI665.out⟩, ⟨by with_reducible exact HB.out⟩⟩
    case rest =>
      clear HC8 c3b0 c3b1 hcz16_0 hcz16_1 hcz16_2 hcz16_3 hcz18_0 hcz18_1 hcz18_10 hcz18_2 hcz18_3 hcz18_4 hcz18_5 hcz18_6 hcz18_7 hcz18_8 hcz18_9 hfz16_0 hfz16_1 hfz16_2 hfz16_3 hfz18_1 hfz18_10 hfz18_2 hfz18_3 hfz18_4 hfz18_5 hfz18_6 hfz18_7 hfz18_8 hfz18_9
      obtain ⟨kq, x666001_7, x666002_7, x666003_7, x666004_7, x666005_7, x666006_7, x666007_7, x666008_7, x666009_7, x666010_7, HA, HJ7, HO_693003, BK664, BK692, HI665, HB⟩ := hcut
      cases kq with
      | zero => exact absurd HA.out (by simp [expr_Parse.j0])
      | succ kj7 =>
        have H := HA.out
        clear HA
        simp only [expr_Parse.j0] at H
        by_cases c22 : x666009_7 = 0
        · rw [if_pos c22] at H
          have c22b0 : (x666009_7 == 0) = true := beq_iff_eq.mpr c22
          have c22b1 : (x666009_7 != 0) = false := bne_eq_false_iff_eq.mpr c22
          clear c22
          replace H := Option.bind_eq_some_iff.mp H
          obtain ⟨t703, A230, H⟩ := H
          try dsimp only at H
          have A23 := Aside0.mk A230
          clear A230
          by_cases c24 : t703 = 0
          · rw [if_pos c24] at H
            have c24b0 : (t703 == 0) = true := beq_iff_eq.mpr c24
            have c24b1 : (t703 != 0) = false := bne_eq_false_iff_eq.mpr c24
            clear c24
            simp only [Option.some.injEq, Prod.mk.injEq] at H
            obtain ⟨rfl, rfl, rfl, rfl, rfl, rfl⟩ := H
            obtain ⟨ASz25_0, cSz25_0, HGz25, hgz25, HSz25_0, HDz25_0⟩ := HI665.out
            obtain ⟨hcz25_0, hcz25_1, hcz25_2, hcz25_3, hcz25_4, hcz25_5, hcz25_6, hcz25_7, hcz25_8, hcz25_9, hcz25_10, -, hfz25_1, hfz25_2, hfz25_3, hfz25_4, hfz25_5, hfz25_6, hfz25_7, hfz25_8, hfz25_9, hfz25_10⟩ := Go.Proofs.YtodbnnfiadcbaaaH.cells11 HGz25
            clear HGz25 hgz25
            have hnb26 := NB692_664.out
            have hnc26 := NB664_692.out
            have hnb27 := NB692_665.out
            have hnc27 := NB665_692.out
            obtain ⟨hcz28_0, hcz28_1, hcz28_2, hcz28_3, hfz28_0, hfz28_1, hfz28_2, hfz28_3⟩ := Go.Proofs.YtodbnnfiadcbaaaH.cells4 BK692.out
            go_wp2_with ((go_at_call 17; (with_reducible refine (expr_Check.calls kj7 _ _ l0 t676 t677 t678 _ _ t679 t703 _ ?side1 ?side2 ?side3 ?side4 A23.out).mono ?_); (case side1 => repeat (exact (Kd.C_below HR0.out HB.out))); (case side2 => exact HC0.out); (case side3 => repeat (exact (Kd.V_reads' HO_693003.out).2.2)); (case side4 => exact (Kd.V_reads' HO_693003.out).2.1); rintro e w29 ⟨rfl, hb⟩; have n0_ := Aside0.mk (Kd.V_below HO_693003.out hb); have n1_ := Aside0.mk (blk_below BK664.out hb); have n2_ := Aside0.mk (blk_below BK692.out hb); have n3_ := Aside0.mk (IsS75.below HI665.out hb); have n4_ := Aside0.mk (below_step HB.out hb); clear HO_693003 BK664 BK692 HI665 HB; have HO_693003 := n0_; have BK664 := n1_; have BK692 := n2_; have HI665 := n3_; have HB := n4_; clear n0_ n1_ n2_ n3_ n4_ hb; obtain ⟨hcz30_0, hcz30_1, hcz30_2, hcz30_3, hfz30_0, hfz30_1, hfz30_2, hfz30_3⟩ := Go.Proofs.YtodbnnfiadcbaaaH.cells4 BK692.out; have hnb31 := NB664_665.out; have hnc31 := NB665_664.out; obtain ⟨hcz32_0, hcz32_1, hcz32_2, hcz32_3, hfz32_0, hfz32_1, hfz32_2, hfz32_3⟩ := Go.Proofs.YtodbnnfiadcbaaaH.cells4 BK664.out))
            repeat (go_quiet (fail); try go_wp2_with (fail))
            refine bodyPost_ret (results_ctt rfl _ _ gb664 28 #[.int .i64 t676, .int .i64 t677, .int .i64 t678, .slice Ao17 t679.length co17] (0, 0) _ rfl (by refine blk_put (cs := #[.int .i64 t676, .int .i64 t677, .int .i64 t678, .slice none 0 0]) ?_ 3 _ rfl; refine blk_put (cs := #[.int .i64 t676, .int .i64 t677, .int .i64 0, .slice none 0 0]) ?_ 2 _ rfl; refine blk_put (cs := #[.int .i64 t676, .int .i64 0, .int .i64 0, .slice none 0 0]) ?_ 1 _ rfl; refine blk_put (cs := #[.int .i64 0, .int .i64 0, .int .i64 0, .slice none 0 0]) ?_ 0 _ rfl; exact BK664.out) Try.underlying28 rfl (by kernel_rfl)) rfl ?_
            exact ⟨_, by rfl, by exact Kd.V_mono (Kd.V_far (p := ⟨gb664, 3, none⟩) (Kd.V_far (p := ⟨gb664, 2, none⟩) (Kd.V_far (p := ⟨gb664, 1, none⟩) (Kd.V_far (p := ⟨gb664, 0, none⟩) (Kd.V_mono HO_693003.out (fun k_ hk => (⟨hk, hk.2.1⟩ : _ ∧ k_ ≠ gb664))) (fun _ hk => hk.2) (.int .i64 t676)) (fun _ hk => hk.2) (.int .i64 t677)) (fun _ hk => hk.2) (.int .i64 t678)) (fun _ hk => hk.2) (.slice Ao17 t679.length co17)) (fun _ hk => hk.1.1), by repeat ((with_reducible first | exact HB.out | refine below_set ?_ GE664.out))⟩
          · rw [if_neg c24] at H
            have c24b0 : (t703 == 0) = false := beq_eq_false_iff_ne.mpr c24
            have c24b1 : (t703 != 0) = true := bne_iff_ne.mpr c24
            simp only [Option.some.injEq, Prod.mk.injEq] at H
            obtain ⟨rfl, rfl, rfl, rfl, rfl, rfl⟩ := H
            obtain ⟨ASz33_0, cSz33_0, HGz33, hgz33, HSz33_0, HDz33_0⟩ := HI665.out
            obtain ⟨hcz33_0, hcz33_1, hcz33_2, hcz33_3, hcz33_4, hcz33_5, hcz33_6, hcz33_7, hcz33_8, hcz33_9, hcz33_10, -, hfz33_1, hfz33_2, hfz33_3, hfz33_4, hfz33_5, hfz33_6, hfz33_7, hfz33_8, hfz33_9, hfz33_10⟩ := Go.Proofs.YtodbnnfiadcbaaaH.cells11 HGz33
            clear HGz33 hgz33
            have hnb34 := NB692_664.out
            have hnc34 := NB664_692.out
            have hnb35 := NB692_665.out
            have hnc35 := NB665_692.out
            obtain ⟨hcz36_0, hcz36_1, hcz36_2, hcz36_3, hfz36_0, hfz36_1, hfz36_2, hfz36_3⟩ := Go.Proofs.YtodbnnfiadcbaaaH.cells4 BK692.out
            go_wp2_with ((go_at_call 17; (with_reducible refine (expr_Check.calls kj7 _ _ l0 t676 t677 t678 _ _ t679 t703 _ ?side1 ?side2 ?side3 ?side4 A23.out).mono ?_); (case side1 => repeat (exact (Kd.C_below HR0.out HB.out))); (case side2 => exact HC0.out); (case side3 => repeat (exact (Kd.V_reads' HO_693003.out).2.2)); (case side4 => exact (Kd.V_reads' HO_693003.out).2.1); rintro e w37 ⟨rfl, hb⟩; have n0_ := Aside0.mk (Kd.V_below HO_693003.out hb); have n1_ := Aside0.mk (blk_below BK664.out hb); have n2_ := Aside0.mk (blk_below BK692.out hb); have n3_ := Aside0.mk (IsS75.below HI665.out hb); have n4_ := Aside0.mk (below_step HB.out hb); clear HO_693003 BK664 BK692 HI665 HB; have HO_693003 := n0_; have BK664 := n1_; have BK692 := n2_; have HI665 := n3_; have HB := n4_; clear n0_ n1_ n2_ n3_ n4_ hb; have hnb38 := NB664_665.out; have hnc38 := NB665_664.out; obtain ⟨hcz39_0, hcz39_1, hcz39_2, hcz39_3, hfz39_0, hfz39_1, hfz39_2, hfz39_3⟩ := Go.Proofs.YtodbnnfiadcbaaaH.cells4 BK664.out))
            repeat (go_quiet (fail); try go_wp2_with (fail))
            refine bodyPost_ret (results_ctt rfl _ _ gb664 28 #[.int .i64 0, .int .i64 0, .int .i64 0, .slice none 0 0] (0, 0) _ rfl (by refine blk_put (cs := #[.int .i64 0, .int .i64 0, .int .i64 0, .slice none 0 0]) ?_ 3 _ rfl; refine blk_put (cs := #[.int .i64 0, .int .i64 0, .int .i64 0, .slice none 0 0]) ?_ 2 _ rfl; refine blk_put (cs := #[.int .i64 0, .int .i64 0, .int .i64 0, .slice none 0 0]) ?_ 1 _ rfl; refine blk_put (cs := #[.int .i64 0, .int .i64 0, .int .i64 0, .slice none 0 0]) ?_ 0 _ rfl; exact BK664.out) Try.underlying28 rfl (by kernel_rfl)) rfl ?_
            exact ⟨_, by rfl, (Kd.V_nil _ _ _ _ _), by repeat ((with_reducible first | exact HB.out | refine below_set ?_ GE664.out))⟩
        · rw [if_neg c22] at H
          have c22b0 : (x666009_7 == 0) = false := beq_eq_false_iff_ne.mpr c22
          have c22b1 : (x666009_7 != 0) = true := bne_iff_ne.mpr c22
          simp only [Option.some.injEq, Prod.mk.injEq] at H
          obtain ⟨rfl, rfl, rfl, rfl, rfl, rfl⟩ := H
          obtain ⟨ASz40_0, cSz40_0, HGz40, hgz40, HSz40_0, HDz40_0⟩ := HI665.out
          obtain ⟨hcz40_0, hcz40_1, hcz40_2, hcz40_3, hcz40_4, hcz40_5, hcz40_6, hcz40_7, hcz40_8, hcz40_9, hcz40_10, -, hfz40_1, hfz40_2, hfz40_3, hfz40_4, hfz40_5, hfz40_6, hfz40_7, hfz40_8, hfz40_9, hfz40_10⟩ := Go.Proofs.YtodbnnfiadcbaaaH.cells11 HGz40
          clear HGz40 hgz40
          have hnb41 := NB664_692.out
          have hnc41 := NB692_664.out
          have hnb42 := NB664_665.out
          have hnc42 := NB665_664.out
          obtain ⟨hcz43_0, hcz43_1, hcz43_2, hcz43_3, hfz43_0, hfz43_1, hfz43_2, hfz43_3⟩ := Go.Proofs.YtodbnnfiadcbaaaH.cells4 BK664.out
          go_wp2
          repeat ((go_region); try go_wp2)
          refine bodyPost_ret (results_ctt rfl _ _ gb664 28 #[.int .i64 0, .int .i64 0, .int .i64 0, .slice none 0 0] (0, 0) _ rfl (by (with_reducible repeat (refine blk_drew ?_)); refine blk_put (cs := #[.int .i64 0, .int .i64 0, .int .i64 0, .slice none 0 0]) ?_ 3 _ rfl; refine blk_put (cs := #[.int .i64 0, .int .i64 0, .int .i64 0, .slice none 0 0]) ?_ 2 _ rfl; refine blk_put (cs := #[.int .i64 0, .int .i64 0, .int .i64 0, .slice none 0 0]) ?_ 1 _ rfl; refine blk_put (cs := #[.int .i64 0, .int .i64 0, .int .i64 0, .slice none 0 0]) ?_ 0 _ rfl; exact BK664.out) Try.underlying28 rfl (by kernel_rfl)) rfl ?_
          exact ⟨_, by rfl, (Kd.V_nil _ _ _ _ _), by repeat ((with_reducible first | exact HB.out | apply below_drew1 | refine below_set ?_ GE664.out))⟩

end Go.Proofs.Ytodbnnfiadcbaaa.P
namespace Go.Proofs.Ytodbnnfiadcbaaa.P
open Go.RowKit Go.Proofs.YtodbnnfiadcbaaaW.PrintWords Go.Proofs.YtodbnnfiadcbaaaW.PrintLast Go.Proofs.YtodbnnfiadcbaaaW.PrintMore
attribute [local go_sem] max2_int min2_int max_two min_two max_three min_three max_four min_four   -- for this text's walks alone
set_option linter.unusedVariables false
set_option linter.unusedSimpArgs false

/-! ### expr_join: function 70 -/
def expr_join.l0 : Nat → List Bool → List Bool → Int → Int → Option (List Bool)
  | 0, _, _, _, _ => none
  | k + 1, x0, x6, x7, x8 => if x8 < x7 then (if 0 ≤ x8 then (if x8 < (x6.length : Int) then (if x8 < (x0.length : Int) then (if rdOf false x0 x8 = true then (expr_join.l0 k (x0.set (x8 : Int).toNat true) x6 x7 (wrap64 (x8 + 1))) else (expr_join.l0 k (x0.set (x8 : Int).toNat (rdOf false x6 x8)) x6 x7 (wrap64 (x8 + 1)))) else (none)) else (none)) else (none)) else (some x0)
def expr_join.f (k : Nat) (l0 : List Bool) (l1 : List Bool) : Option (List Bool) := expr_join.l0 k l0 l1 (l1.length : Int) 0
theorem expr_join.mono_l : ∀ k, (∀ y0 y1 y2 y3, LeO (expr_join.l0 k y0 y1 y2 y3) (expr_join.l0 (k + 1) y0 y1 y2 y3))
  | 0 => fun _ _ _ _ r h => by simp [expr_join.l0] at h
  | k + 1 => by
    have ih0 := expr_join.mono_l k
    · intro y0 y1 y2 y3
      unfold expr_join.l0
      repeat' first
      | (with_reducible exact ih0 _ _ _ _)
      | (with_reducible exact LeO.refl _)
      | (with_reducible refine LeO.ite ?_ ?_)
theorem expr_join.mono : ∀ a0 a1 k, LeO (expr_join.f k a0 a1) (expr_join.f (k + 1) a0 a1) := by
  intro a0 a1 k
  have ih0 := expr_join.mono_l k
  unfold expr_join.f
  repeat' first
      | (with_reducible exact ih0 _ _ _ _)
set_option maxHeartbeats 8000000 in
set_option maxRecDepth 100000 in
theorem expr_join.calls (k : Nat) (P0_ : Nat → Prop) (u9000_ : Value) (l0 : List Bool) (A1 : Option Addr) (c1 : Nat) (l1 : List Bool) (r : List Bool) (w0 w : World) (hB : Below w0.heap.size w0 w) (ho0 : Kd.R Kd.bool 4 w w0.heap.size P0_ u9000_ l0) (hr1 : ∀ W_, Kept w W_ (fun k_ => P0_ k_) → Kd.C Kd.bool W_ A1 l1.length l1) (hc1 : l1.length ≤ c1) (h : expr_join.f k l0 l1 = some r) :
    Calls Try.prog 70 #[u9000_, .slice A1 l1.length c1] w fun e w' => e = .returned (.tuple #[]) ∧ Kd.R Kd.bool 4 w' w0.heap.size (fun k_ => (P0_ k_ ∨ w.heap.size ≤ k_)) u9000_ r ∧ Below w0.heap.size w0 w' ∧ Kept w w' (fun k_ => P0_ k_) := by
  have HO0 := Aside0.mk (show Kd.R Kd.bool 4 w w0.heap.size (fun k_ => (P0_ k_ ∨ w.heap.size ≤ k_)) u9000_ l0 from Kd.R_mono ho0 (fun k_ hk => (.inl hk)))
  have HR1 := Aside0.mk hr1
  have HC1 := Aside0.mk hc1
  clear hr1 hc1
  have HK := Aside0.mk (Kept.refl w (fun k_ => P0_ k_))
  have HW0 := Aside0.mk hB.size
  have HB := Aside0.mk hB
  clear hB
  have H : (expr_join.l0 k l0 l1 (l1.length : Int) 0) = some r := h
  clear h
  have H' := Aside0.mk H
  clear H
  go_enter Try.func70, Try.ntmps70
  go_wp2
  go_loopg [8] k (fun kq v8 w' => ∃ (x0_1 : List Bool) (x8_1 : Int), v8 = .int .i64 x8_1 ∧ Aside0 (expr_join.l0 kq x0_1 l1 (l1.length : Int) x8_1 = some r) ∧ Aside0 (kq ≤ k) ∧ Aside0 (Kd.R Kd.bool 4 w' w0.heap.size (fun k_ => (P0_ k_ ∨ w.heap.size ≤ k_)) u9000_ x0_1) ∧ Aside0 (Kept w w' (fun k_ => P0_ k_)) ∧ Aside0 (Below w0.heap.size w0 w'))
  case atStart => exact ⟨(l0), (0), (by rfl), H', ⟨Nat.le_refl _⟩, ⟨by exact HO0.out⟩, ⟨by with_reducible exact HK.out⟩, ⟨by with_reducible exact HB.out⟩⟩
  case round =>
    clear H'
    obtain ⟨x0_1, x8_1, rfl, HA, HK1, HO_0, HK, HB⟩ := hrel
    cases gk with
    | zero => exact absurd HA.out (by simp [expr_join.l0])
    | succ k1 =>
      have H := HA.out
      clear HA
      simp only [expr_join.l0] at H
      by_cases c3 : x8_1 < (l1.length : Int)
      · rw [if_pos c3] at H
        have c3b0 : decide (x8_1 < (l1.length : Int)) = true := decide_eq_true c3
        clear c3
        by_cases c4 : 0 ≤ x8_1
        · rw [if_pos c4] at H
          have c4b0 : decide (0 ≤ x8_1) = true := decide_eq_true c4
          clear c4
          by_cases c5 : x8_1 < (l1.length : Int)
          · rw [if_pos c5] at H
            have c5b0 : decide (x8_1 < (l1.length : Int)) = true := decide_eq_true c5
            clear c5
            by_cases c6 : x8_1 < (x0_1.length : Int)
            · rw [if_pos c6] at H
              have c6b0 : decide (x8_1 < (x0_1.length : Int)) = true := decide_eq_true c6
              clear c6
              obtain ⟨bq7, hbq7⟩ : ∃ b_ : Bool, b_ = (rdOf false x0_1 x8_1) := ⟨_, rfl⟩
              replace H : (if bq7 = true then (expr_join.l0 k1 (x0_1.set (x8_1 : Int).toNat true) l1 (l1.length : Int) (wrap64 (x8_1 + 1))) else (expr_join.l0 k1 (x0_1.set (x8_1 : Int).toNat (rdOf false l1 x8_1)) l1 (l1.length : Int) (wrap64 (x8_1 + 1)))) = some r := by rw [← hbq7] at H; exact H
              have Nbq7 := Aside0.mk hbq7
              clear hbq7
              by_cases c8 : bq7 = true
              · subst c8
                rw [if_pos rfl] at H
                obtain ⟨y706, hy706⟩ : ∃ y_ : List Bool, y_ = (x0_1.set (x8_1 : Int).toNat true) := ⟨_, rfl⟩
                replace H : (expr_join.l0 k1 y706 l1 (l1.length : Int) (wrap64 (x8_1 + 1))) = some r := by (rw [hy706]; with_reducible exact H)
                have Ny706 := Aside0.mk hy706
                clear hy706
                have H' := Aside0.mk H
                clear H
                have p704 : 0 ≤ (x8_1 : Int) := of_decide_eq_true (by (with_reducible assumption))
                have q704 : x8_1 < (l1.length : Int) := of_decide_eq_true (by (with_reducible assumption))
                obtain ⟨ad704, e704, hx704_0⟩ := Kd.at_bool (Kd.C_kept_now HR1.out HK.out) x8_1 p704 q704
                (skip)
                cases e704
                replace p704 := eq_true p704
                replace q704 := eq_true q704
                obtain ⟨Ao10, co10, eo10⟩ := Kd.R_slice HO_0.out
                subst eo10
                have p705 : 0 ≤ (x8_1 : Int) := of_decide_eq_true (by (with_reducible assumption))
                have q705 : x8_1 < (x0_1.length : Int) := of_decide_eq_true (by (with_reducible assumption))
                obtain ⟨ad705, e705, hx705_0⟩ := Kd.at_bool (Kd.R_reads' HO_0.out).2.2 x8_1 p705 q705
                (rw [← Nbq7.out] at hx705_0)
                cases e705
                replace p705 := eq_true p705
                replace q705 := eq_true q705
                have p9 : 0 ≤ (x8_1 : Int) := of_decide_eq_true (by (with_reducible assumption))
                have q9 : (x8_1 : Int) < ((x0_1.length : Int) : Int) := of_decide_eq_true (by (with_reducible assumption))
                obtain ⟨go9, co9, eo9, gb9, gl9, cl9, HG9⟩ := Kd.R_form HO_0.out (by omega)
                (cases eo9)
                have GB9 := Aside0.mk gb9
                have GG9 := Aside0.mk HG9
                clear gb9 gl9 HG9
                have HMgo9 := Aside0.mk (show (P0_ go9 ∨ w.heap.size ≤ go9) from (HO_0.out.1 _ rfl))
                (simp only [add_plain] at hx705_0)
                obtain ⟨hx9_0, hf9_0⟩ := Kd.R_celln false HO_0.out (x8_1 : Int) p9 q9
                replace p9 := eq_true p9
                replace q9 := eq_true q9
                have HP11 := Kd.R_putg HO_0.out (x8_1 : Int) true
                go_wp2_with (((with_reducible refine gate_store (t := 4) (p := 22) rfl ?_); refine store_event (t := 4) (p := 22) (v := ?vo_w12) (w1 := (wr.setCell ⟨go9, (x8_1 : Int).toNat, none⟩ (.bool true))) ?hg ?ho ?hn ?hr ?_; (case ho => rfl); (case hg => rfl); (case hn => rfl); (case hr => (go_simp; done)); intro w12 hw; have hg : wr.grownBy w12 (some go9) := (by rw [hw]; exact HP11.2); have hp_ : Kd.R Kd.bool 4 w12 w0.heap.size (fun k_ => (P0_ k_ ∨ w.heap.size ≤ k_)) (.slice (some ⟨go9, 0, none⟩) x0_1.length co10) y706 := (by rw [hw, Ny706.out]; exact HP11.1); clear HP11; have n0_ := Aside0.mk (hp_); have n1_ := Aside0.mk ((by rw [hw]; exact below_set (HB.out) GB9.out : Below w0.heap.size w0 w12)); have n2_ := Aside0.mk (Kept.of_grown (S := (fun k_ => P0_ k_)) hg HK.out (fun k_ e_ => (HO_0.out.1 k_ e_))); clear HO_0 HB HK; have HO_0 := n0_; have HB := n1_; have HK := n2_; clear n0_ n1_ n2_ hg hw hp_))
                go_roundg k1
                case measure => have := HK1.out; omega
                case rel => exact ⟨(y706), (wrap64 (x8_1 + 1)), (by rfl), H', ⟨by have := HK1.out; omega⟩, ⟨by exact HO_0.out⟩, ⟨by with_reducible exact HK.out⟩, ⟨by with_reducible exact HB.out⟩⟩
              · replace c8 := Bool.eq_false_iff.mpr c8
                subst c8
                rw [if_neg (show ¬ (false = true) by decide)] at H
                obtain ⟨y707, hy707⟩ : ∃ y_ : List Bool, y_ = (x0_1.set (x8_1 : Int).toNat (rdOf false l1 x8_1)) := ⟨_, rfl⟩
                replace H : (expr_join.l0 k1 y707 l1 (l1.length : Int) (wrap64 (x8_1 + 1))) = some r := by (rw [hy707]; with_reducible exact H)
                have Ny707 := Aside0.mk hy707
                clear hy707
                have H' := Aside0.mk H
                clear H
                have p704 : 0 ≤ (x8_1 : Int) := of_decide_eq_true (by (with_reducible assumption))
                have q704 : x8_1 < (l1.length : Int) := of_decide_eq_true (by (with_reducible assumption))
                obtain ⟨ad704, e704, hx704_0⟩ := Kd.at_bool (Kd.C_kept_now HR1.out HK.out) x8_1 p704 q704
                (skip)
                cases e704
                replace p704 := eq_true p704
                replace q704 := eq_true q704
                obtain ⟨Ao14, co14, eo14⟩ := Kd.R_slice HO_0.out
                subst eo14
                have p705 : 0 ≤ (x8_1 : Int) := of_decide_eq_true (by (with_reducible assumption))
                have q705 : x8_1 < (x0_1.length : Int) := of_decide_eq_true (by (with_reducible assumption))
                obtain ⟨ad705, e705, hx705_0⟩ := Kd.at_bool (Kd.R_reads' HO_0.out).2.2 x8_1 p705 q705
                (rw [← Nbq7.out] at hx705_0)
                cases e705
                replace p705 := eq_true p705
                replace q705 := eq_true q705
                have p13 : 0 ≤ (x8_1 : Int) := of_decide_eq_true (by (with_reducible assumption))
                have q13 : (x8_1 : Int) < ((x0_1.length : Int) : Int) := of_decide_eq_true (by (with_reducible assumption))
                obtain ⟨go13, co13, eo13, gb13, gl13, cl13, HG13⟩ := Kd.R_form HO_0.out (by omega)
                (cases eo13)
                have GB13 := Aside0.mk gb13
                have GG13 := Aside0.mk HG13
                clear gb13 gl13 HG13
                have HMgo13 := Aside0.mk (show (P0_ go13 ∨ w.heap.size ≤ go13) from (HO_0.out.1 _ rfl))
                (simp only [add_plain] at hx705_0)
                obtain ⟨hx13_0, hf13_0⟩ := Kd.R_celln false HO_0.out (x8_1 : Int) p13 q13
                replace p13 := eq_true p13
                replace q13 := eq_true q13
                have HP15 := Kd.R_putg HO_0.out (x8_1 : Int) (rdOf false l1 x8_1)
                go_wp2_with (((with_reducible refine gate_store (t := 4) (p := 22) rfl ?_); refine store_event (t := 4) (p := 22) (v := ?vo_w16) (w1 := (wr.setCell ⟨go13, (x8_1 : Int).toNat, none⟩ (.bool (rdOf false l1 x8_1)))) ?hg ?ho ?hn ?hr ?_; (case ho => rfl); (case hg => rfl); (case hn => rfl); (case hr => (go_simp; done)); intro w16 hw; have hg : wr.grownBy w16 (some go13) := (by rw [hw]; exact HP15.2); have hp_ : Kd.R Kd.bool 4 w16 w0.heap.size (fun k_ => (P0_ k_ ∨ w.heap.size ≤ k_)) (.slice (some ⟨go13, 0, none⟩) x0_1.length co14) y707 := (by rw [hw, Ny707.out]; exact HP15.1); clear HP15; have n0_ := Aside0.mk (hp_); have n1_ := Aside0.mk ((by rw [hw]; exact below_set (HB.out) GB13.out : Below w0.heap.size w0 w16)); have n2_ := Aside0.mk (Kept.of_grown (S := (fun k_ => P0_ k_)) hg HK.out (fun k_ e_ => (HO_0.out.1 k_ e_))); clear HO_0 HB HK; have HO_0 := n0_; have HB := n1_; have HK := n2_; clear n0_ n1_ n2_ hg hw hp_))
                go_roundg k1
                case measure => have := HK1.out; omega
                case rel => exact ⟨(y707), (wrap64 (x8_1 + 1)), (by rfl), H', ⟨by have := HK1.out; omega⟩, ⟨by exact HO_0.out⟩, ⟨by with_reducible exact HK.out⟩, ⟨by with_reducible exact HB.out⟩⟩
            · rw [if_neg c6] at H
              exact absurd H (by simp)
          · rw [if_neg c5] at H
            exact absurd H (by simp)
        · rw [if_neg c4] at H
          exact absurd H (by simp)
      · rw [if_neg c3] at H
        have c3b0 : decide (x8_1 < (l1.length : Int)) = false := decide_eq_false c3
        clear c3
        obtain rfl := Option.some.inj H
        go_wp2
        go_end0
        exact ⟨by rfl, by exact HO_0.out, by with_reducible exact HB.out, by with_reducible exact HK.out⟩

end Go.Proofs.Ytodbnnfiadcbaaa.P
namespace Go.Proofs.Ytodbnnfiadcbaaa.P
open Go.RowKit Go.Proofs.YtodbnnfiadcbaaaW.PrintWords Go.Proofs.YtodbnnfiadcbaaaW.PrintLast Go.Proofs.YtodbnnfiadcbaaaW.PrintMore
set_option linter.unusedVariables false
set_option linter.unusedSimpArgs false
/-! #### the plain function -/
def isB (w : List Int) (i : Nat) (s : Int) : Bool := decide (i < w.length) && (rd w (i : Int) == s)
def nestL (w : List Int) (fin : Int) : List Bool → Nat → List Bool → List Bool
  | [], _, out => out
  | b :: m, k, out => nestL w fin m (k + 1) (if (b && isB w k fin) = true then out.set (k + 1) true else out)
def orL (f : S28 → Option (List Bool)) : List S28 → List Bool → Option (List Bool)
  | [], out => some out
  | c :: cs, out => (f c).bind fun m => (expr_join.f (m.length + 2) out m).bind fun o => orL f cs o
def catRow (f : Nat → Option (List Bool)) : List Bool → Nat → List Bool → Option (List Bool)
  | [], _, next => some next
  | b :: o, k, next => if b = true then (f k).bind fun m => (expr_join.f (m.length + 2) next m).bind fun n => catRow f o (k + 1) n else catRow f o (k + 1) next
def catL (f : S28 → Nat → Option (List Bool)) : List S28 → List Bool → Option (List Bool)
  | [], out => some out
  | c :: cs, out => (catRow (f c) out 0 (List.replicate out.length false)).bind fun o => catL f cs o
def starL (f : Nat → Option (List Bool)) : Nat → Nat → List Bool → Option (List Bool)
  | 0, _, _ => none
  | n + 1, k, out => if k < out.length then (if rdOf false out (k : Int) = true then (f k).bind fun m => (expr_join.f (m.length + 2) out m).bind fun o => starL f n (k + 1) o else starL f n (k + 1) out) else some out
def endF : Nat → S28 → Nat → List Int → Option (List Bool)
  | 0, _, _, _ => none
  | k + 1, t, at_, w => if at_ ≤ w.length ∧ w.length < 140737488355327 then
      (if t.f0 = 2 then some ((List.replicate (w.length + 1) false).set at_ true)
      else if t.f0 = 3 then (if isB w at_ t.f1 = true then some ((List.replicate (w.length + 1) false).set (at_ + 1) true) else some (List.replicate (w.length + 1) false))
      else if t.f0 = 4 then (if t.f3.length = 1 ∧ isB w at_ t.f1 = true then (endF k (t.f3.getD 0 z28) (at_ + 1) w).bind fun m => some (nestL w t.f2 m 0 (List.replicate (w.length + 1) false)) else some (List.replicate (w.length + 1) false))
      else if t.f0 = 6 then orL (fun c => endF k c at_ w) t.f3 (List.replicate (w.length + 1) false)
      else if t.f0 = 5 then catL (fun c j => endF k c j w) t.f3 ((List.replicate (w.length + 1) false).set at_ true)
      else if t.f0 = 7 then (if t.f3.length = 1 then starL (fun j => endF k (t.f3.getD 0 z28) j w) (w.length + 3) at_ ((List.replicate (w.length + 1) false).set at_ true) else some ((List.replicate (w.length + 1) false).set at_ true))
      else some (List.replicate (w.length + 1) false))
    else none
theorem orL_le {f g : S28 → Option (List Bool)} (h : ∀ c, LeO (f c) (g c)) : ∀ cs out, LeO (orL f cs out) (orL g cs out)
  | [], out => LeO.refl _
  | c :: cs, out => LeO.bind (h c) fun m => LeO.bind (LeO.refl _) fun o => orL_le h cs o
theorem catRow_le {f g : Nat → Option (List Bool)} (h : ∀ c, LeO (f c) (g c)) : ∀ o k n, LeO (catRow f o k n) (catRow g o k n)
  | [], k, n => LeO.refl _
  | b :: o, k, n => by
    unfold catRow
    exact LeO.ite (LeO.bind (h k) fun m => LeO.bind (LeO.refl _) fun n => catRow_le h o (k + 1) n) (catRow_le h o (k + 1) n)
theorem catL_le {f g : S28 → Nat → Option (List Bool)} (h : ∀ c j, LeO (f c j) (g c j)) : ∀ cs out, LeO (catL f cs out) (catL g cs out)
  | [], out => LeO.refl _
  | c :: cs, out => LeO.bind (catRow_le (h c) _ _ _) fun o => catL_le h cs o
theorem starL_le {f g : Nat → Option (List Bool)} (h : ∀ c, LeO (f c) (g c)) : ∀ n k out, LeO (starL f n k out) (starL g n k out)
  | 0, k, out => LeO.refl _
  | n + 1, k, out => by
    unfold starL
    exact LeO.ite (LeO.ite (LeO.bind (h k) fun m => LeO.bind (LeO.refl _) fun n' => starL_le h n (k + 1) n') (starL_le h n (k + 1) out)) (LeO.refl _)
theorem endF_le : ∀ k t a w, LeO (endF k t a w) (endF (k + 1) t a w)
  | 0, t, a, w => by unfold endF; exact LeO.none _
  | k + 1, t, a, w => by
    unfold endF
    exact LeO.ite (LeO.ite (LeO.refl _) (LeO.ite (LeO.refl _) (LeO.ite (LeO.ite (LeO.bind (endF_le k _ _ _) fun _ => LeO.refl _) (LeO.refl _)) (LeO.ite (orL_le (fun c => endF_le k c a w) _ _) (LeO.ite (catL_le (fun c j => endF_le k c j w) _ _) (LeO.ite (LeO.ite (starL_le (fun j => endF_le k _ j w) _ _ _) (LeO.refl _)) (LeO.refl _))))))) (LeO.none _)
theorem endF_up {k : Nat} {t : S28} {a : Nat} {w : List Int} {r : List Bool} (h : endF k t a w = some r) : ∀ j, endF (k + j) t a w = some r
  | 0 => h
  | j + 1 => endF_le (k + j) t a w r (endF_up h j)
theorem endF_one {k k' : Nat} {t : S28} {a : Nat} {w : List Int} {r r' : List Bool} (h : endF k t a w = some r) (h' : endF k' t a w = some r') : r = r' := by
  have h1 := endF_up h k'
  have h2 := endF_up h' k
  rw [Nat.add_comm] at h2
  exact Option.some.inj (h1.symm.trans h2)
def hasF (k : Nat) (t : S28) (w : List Int) : Option Bool := (endF k t 0 w).bind fun m => if w.length < m.length then some (rdOf false m (w.length : Int)) else none
theorem hasF_le (k : Nat) (t : S28) (w : List Int) : LeO (hasF k t w) (hasF (k + 1) t w) := LeO.bind (endF_le k t 0 w) fun _ => LeO.refl _
end Go.Proofs.Ytodbnnfiadcbaaa.P
namespace Go.Proofs.Ytodbnnfiadcbaaa.P
open Go.RowKit Go.Proofs.YtodbnnfiadcbaaaW.PrintWords Go.Proofs.YtodbnnfiadcbaaaW.PrintLast Go.Proofs.YtodbnnfiadcbaaaW.PrintMore
set_option linter.unusedVariables false
set_option linter.unusedSimpArgs false
theorem isB_lt {w : List Int} {j n : Nat} {s : Int} (h : isB w j s = true) (hn : n = w.length + 1) : j + 1 < n := by
  unfold isB at h
  simp only [Bool.and_eq_true, decide_eq_true_eq] at h
  omega
/-! #### nodes in memory -/
def Node (W : World) (ok : Nat → Prop) (p : Addr) (t : S28) : Prop := ok p.block ∧ p.spot = none ∧ PlainAt W p ∧ ∃ cs, cs.length = 4 ∧ (∀ i u, cs[i]? = some u → W.cell? (p.add i) = some u) ∧ Kd.FK k28 W ok t cs
theorem cell_keep {W W1 : World} {a : Addr} {v : Value} (h : W1.heap[a.block]? = W.heap[a.block]?) (hc : W.cell? a = some v) : W1.cell? a = some v := by
  simpa [World.cell?, h] using hc
theorem add_at (b o i : Nat) : (⟨b, o, none⟩ : Addr).add i = ⟨b, o + i, none⟩ := by
  unfold Addr.add; split <;> simp_all
theorem add_block (a : Addr) (i : Nat) : (a.add i).block = a.block := by
  unfold Addr.add; split <;> rfl
theorem Node.mono {W : World} {ok ok' : Nat → Prop} {p : Addr} {t : S28} (h : Node W ok p t) (hok : ∀ k, ok k → ok' k) : Node W ok' p t := by
  obtain ⟨h1, h2, h3, cs, h4, h5, h6⟩ := h
  exact ⟨hok _ h1, h2, h3, cs, h4, h5, Kd.FK_mono h6 hok⟩
theorem Node.lt {W : World} {ok : Nat → Prop} {p : Addr} {t : S28} (h : Node W ok p t) : p.block < W.heap.size := by
  obtain ⟨h1, h2, ⟨_, _, h3⟩, _⟩ := h
  exact (Array.getElem?_eq_some_iff.1 h3).1
theorem Node.bound {W : World} {ok : Nat → Prop} {p : Addr} {t : S28} (h : Node W ok p t) : Node W (fun k => ok k ∧ k < W.heap.size) p t := by
  have hl := h.lt
  obtain ⟨h1, h2, h3, cs, h4, h5, h6⟩ := h
  exact ⟨⟨h1, hl⟩, h2, h3, cs, h4, h5, Kd.FK_bound h6⟩
theorem Node.step {W W1 : World} {ok : Nat → Prop} {p : Addr} {t : S28} (h : Node W ok p t) (hm : ∀ k, ok k → k < W.heap.size → W1.heap[k]? = W.heap[k]?) : Node W1 ok p t := by
  have hl := h.lt
  obtain ⟨h1, h2, ⟨c, tt, h3⟩, cs, h4, h5, h6⟩ := h
  exact ⟨h1, h2, ⟨c, tt, (hm _ h1 hl).trans h3⟩, cs, h4, fun i u hu => cell_keep (by rw [add_block]; exact hm _ h1 hl) (h5 i u hu), Kd.FK_step h6 hm⟩
theorem Node.open {W : World} {ok : Nat → Prop} {p : Addr} {t : S28} (h : Node W ok p t) : ∃ b o A c, p = ⟨b, o, none⟩ ∧ W.cell? ⟨b, o, none⟩ = some (.int .i64 t.f0) ∧ W.cell? ⟨b, o + 1, none⟩ = some (.int .i64 t.f1) ∧ W.cell? ⟨b, o + 2, none⟩ = some (.int .i64 t.f2) ∧ W.cell? ⟨b, o + 3, none⟩ = some (.slice A t.f3.length c) ∧ t.f3.length ≤ c ∧ Kd.F k28 W ok A t.f3.length t.f3 := by
  obtain ⟨h1, h2, h3, cs, h4, h5, h6⟩ := h
  obtain ⟨A, c, rfl, hl, hF⟩ := k28_openF h6
  obtain ⟨b, o, s⟩ := p
  simp only at h2
  subst h2
  refine ⟨b, o, A, c, rfl, ?_, ?_, ?_, ?_, hl, hF⟩
  · simpa [Addr.add] using h5 0 _ rfl
  · simpa [Addr.add] using h5 1 _ rfl
  · simpa [Addr.add] using h5 2 _ rfl
  · simpa [Addr.add] using h5 3 _ rfl
theorem F_ok {α : Type} {d : Kd α} {W : World} {ok : Nat → Prop} {ad : Addr} {n : Nat} {xs : List α} (h : Kd.F d W ok (some ad) n xs) (hn : 0 < n) (hs : 0 < d.sz) : ok ad.block := by
  apply Classical.byContradiction
  intro hno
  obtain ⟨W', h1, h2⟩ := Kd.emptied W ad.block
  exact Kd.C_not_empty (h W' (fun k hk _ => h1 k (fun e => hno (e ▸ hk)))) hn hs (h2 ad rfl)
theorem F_row {W : World} {ok : Nat → Prop} {A : Option Addr} {l : List S28} (h : Kd.F k28 W ok A l.length l) (i : Nat) (hi : i < l.length) : ∃ b o, A = some ⟨b, o, none⟩ ∧ Node W ok ⟨b, o + i * 4, none⟩ (l.getD i z28) := by
  obtain ⟨ad, c, e, hcl, hK, hc⟩ := Kd.C_get (Kd.F_now h) z28 (i : Int) (by omega) (by omega)
  subst e
  simp only [Int.toNat_natCast] at hK hc
  have hs4 : k28.sz = 4 := rfl
  have hokb := F_ok h (by omega) (by rw [hs4]; decide)
  obtain ⟨cells, tt, hb⟩ := (Kd.F_now h).2 trivial (by omega) ad rfl
  obtain ⟨b, o, s⟩ := ad
  have hsn : s = none := by
    cases s with
    | none => rfl
    | some q => exact absurd (by simp [World.cell?, show W.heap[b]? = _ from hb]) (Kd.C_not_empty (Kd.F_now h) (by omega) (by rw [hs4]; decide))
  subst hsn
  refine ⟨b, o, rfl, hokb, rfl, ⟨cells, tt, hb⟩, c, by rw [hcl]; rfl, fun j u hu => ?_, fun W' hW => ?_⟩
  · have := hc j u hu
    rw [hs4, add_at] at this
    rw [add_at, Nat.add_assoc]
    exact this
  · have hC := h W' hW
    obtain ⟨ad', c', e', hcl', hK', hc'⟩ := Kd.C_get hC z28 (i : Int) (by omega) (by omega)
    injection e' with e'
    subst e'
    simp only [Int.toNat_natCast] at hK' hc'
    have hblk : W'.heap[b]? = W.heap[b]? := hW b hokb (Array.getElem?_eq_some_iff.1 hb).1
    have hcc : c' = c := by
      apply List.ext_getElem?
      intro j
      by_cases hj : j < 4
      · have hj1 : j < c.length := by rw [hcl]; exact hj
        have hj2 : j < c'.length := by rw [hcl']; exact hj
        have e1 := hc j _ (List.getElem?_eq_getElem hj1)
        have e2 := hc' j _ (List.getElem?_eq_getElem hj2)
        have e3 := cell_keep (W1 := W') (by rw [add_block]; exact hblk) e1
        rw [List.getElem?_eq_getElem hj1, List.getElem?_eq_getElem hj2]
        exact e2.symm.trans e3
      · rw [List.getElem?_eq_none (l := c) (by rw [hcl, hs4]; omega), List.getElem?_eq_none (l := c') (by rw [hcl', hs4]; omega)]
    rw [← hcc]
    exact hK'
theorem Node.unique {W : World} {ok ok' : Nat → Prop} : ∀ (n : Nat) (t t' : S28) (p : Addr), SizeOf.sizeOf t < n → Node W ok p t → Node W ok' p t' → t = t'
  | 0, _, _, _, h, _, _ => absurd h (Nat.not_lt_zero _)
  | n + 1, t, t', p, hn, h, h' => by
    obtain ⟨b, o, A, c, rfl, h0, h1, h2, h3, h4, h5⟩ := h.open
    obtain ⟨b', o', A', c', e, h0', h1', h2', h3', h4', h5'⟩ := h'.open
    injection e with e1 e2 _
    subst e1
    subst e2
    rw [h0] at h0'; rw [h1] at h1'; rw [h2] at h2'; rw [h3] at h3'
    injection h0' with h0'; injection h0' with _ h0'
    injection h1' with h1'; injection h1' with _ h1'
    injection h2' with h2'; injection h2' with _ h2'
    injection h3' with h3'; injection h3' with e1 e2 e3
    subst e1
    have hL : t.f3 = t'.f3 := by
      apply List.ext_getElem e2
      intro i hi hi'
      obtain ⟨b1, o1, e, hN⟩ := F_row h5 i hi
      obtain ⟨b2, o2, e', hN'⟩ := F_row h5' i hi'
      rw [e] at e'
      injection e' with e'
      injection e' with e1 e2 _
      subst e1
      subst e2
      have hsz : SizeOf.sizeOf (t.f3.getD i z28) < n := by
        have hm : t.f3.getD i z28 ∈ t.f3 := by rw [List.getD_eq_getElem?_getD, List.getElem?_eq_getElem hi]; exact List.getElem_mem hi
        have := List.sizeOf_lt_of_mem hm
        have h9 : SizeOf.sizeOf t.f3 < SizeOf.sizeOf t := by cases t; simp only [S28.mk.sizeOf_spec]; omega
        omega
      have := Node.unique n _ _ _ hsz hN hN'
      rw [List.getD_eq_getElem?_getD, List.getElem?_eq_getElem hi, List.getD_eq_getElem?_getD, List.getElem?_eq_getElem hi'] at this
      exact this
    cases t
    cases t'
    simp only at h0' h1' h2' hL
    subst h0' h1' h2' hL
    rfl
theorem F_child {W : World} {ok : Nat → Prop} {A : Option Addr} {l : List S28} (h : Kd.F k28 W ok A l.length l) (i : Nat) (hi : i < l.length) : ∃ b o, A = some ⟨b, o, none⟩ ∧ Node W ok (Addr.add ⟨b, o, none⟩ (i * 4)) (l.getD i z28) := by
  obtain ⟨b, o, e, hN⟩ := F_row h i hi
  exact ⟨b, o, e, by rw [add_at]; exact hN⟩
theorem getD_drop {α : Type} (l : List α) (z : α) (j : Nat) (hj : j < l.length) : l.drop j = l.getD j z :: l.drop (j + 1) := by
  rw [List.getD_eq_getElem?_getD, List.getElem?_eq_getElem hj]
  exact List.drop_eq_getElem_cons hj
theorem rdOf_drop (l : List Bool) (j : Nat) (hj : j < l.length) : l.drop j = rdOf false l (j : Int) :: l.drop (j + 1) := by
  rw [getD_drop l false j hj]; rfl
theorem nestL_step {w : List Int} {fin : Int} {m o : List Bool} {j : Nat} (hj : j < m.length) : nestL w fin (m.drop j) j o = nestL w fin (m.drop (j + 1)) (j + 1) (if (rdOf false m (j : Int) && isB w j fin) = true then o.set (j + 1) true else o) := by
  rw [rdOf_drop m j hj]; rfl
theorem bind_some {α β : Type} {x : Option α} {f : α → Option β} {r : β} (h : x.bind f = some r) : ∃ y, x = some y ∧ f y = some r := Option.bind_eq_some_iff.mp h
theorem orL_step {f : S28 → Option (List Bool)} {l : List S28} {o r : List Bool} {j : Nat} (hj : j < l.length) (h : orL f (l.drop j) o = some r) : ∃ m o', f (l.getD j z28) = some m ∧ expr_join.f (m.length + 2) o m = some o' ∧ orL f (l.drop (j + 1)) o' = some r := by
  rw [getD_drop l z28 j hj] at h
  obtain ⟨m, h1, h⟩ := bind_some h
  obtain ⟨o', h2, h⟩ := bind_some h
  exact ⟨m, o', h1, h2, h⟩
theorem catL_step {f : S28 → Nat → Option (List Bool)} {l : List S28} {o r : List Bool} {j : Nat} (hj : j < l.length) (h : catL f (l.drop j) o = some r) : ∃ o', catRow (f (l.getD j z28)) o 0 (List.replicate o.length false) = some o' ∧ catL f (l.drop (j + 1)) o' = some r := by
  rw [getD_drop l z28 j hj] at h
  exact bind_some h
theorem catRow_step {f : Nat → Option (List Bool)} {l o r : List Bool} {j : Nat} (hj : j < l.length) (h : catRow f (l.drop j) j o = some r) :
    (rdOf false l (j : Int) = true ∧ ∃ m o', f j = some m ∧ expr_join.f (m.length + 2) o m = some o' ∧ catRow f (l.drop (j + 1)) (j + 1) o' = some r) ∨ (rdOf false l (j : Int) = false ∧ catRow f (l.drop (j + 1)) (j + 1) o = some r) := by
  rw [rdOf_drop l j hj] at h
  unfold catRow at h
  cases hb : rdOf false l (j : Int) with
  | true =>
    rw [hb, if_pos rfl] at h
    obtain ⟨m, h1, h⟩ := bind_some h
    obtain ⟨o', h2, h⟩ := bind_some h
    exact .inl ⟨rfl, m, o', h1, h2, h⟩
  | false =>
    rw [hb, if_neg (by decide)] at h
    exact .inr ⟨rfl, h⟩
theorem starL_step {f : Nat → Option (List Bool)} {q : Nat} {o r : List Bool} {j : Nat} (hj : j < o.length) (h : starL f q j o = some r) : ∃ q1, q = q1 + 1 ∧
    ((rdOf false o (j : Int) = true ∧ ∃ m o', f j = some m ∧ expr_join.f (m.length + 2) o m = some o' ∧ starL f q1 (j + 1) o' = some r) ∨ (rdOf false o (j : Int) = false ∧ starL f q1 (j + 1) o = some r)) := by
  cases q with
  | zero => cases h
  | succ q =>
    refine ⟨q, rfl, ?_⟩
    unfold starL at h
    rw [if_pos hj] at h
    cases hb : rdOf false o (j : Int) with
    | true =>
      rw [hb, if_pos rfl] at h
      obtain ⟨m, h1, h⟩ := bind_some h
      obtain ⟨o', h2, h⟩ := bind_some h
      exact .inl ⟨rfl, m, o', h1, h2, h⟩
    | false =>
      rw [hb, if_neg (by decide)] at h
      exact .inr ⟨rfl, h⟩
theorem starL_end {f : Nat → Option (List Bool)} {q : Nat} {o r : List Bool} {j : Nat} (hj : ¬ j < o.length) (h : starL f q j o = some r) : o = r := by
  cases q with
  | zero => cases h
  | succ q =>
    unfold starL at h
    rw [if_neg hj] at h
    exact Option.some.inj h
/-! #### the reader -/
def Entry (W : World) (ok : Nat → Prop) (lw : List Int) (e : MapEntry) : Prop := ∃ (p : Addr) (n : Nat) (t : S28) (k : Nat) (l : List Bool) (A : Option Addr) (c : Nat), e.key = keyV p n ∧ e.val = .slice A l.length c ∧ l.length ≤ c ∧ Kd.F Kd.bool W ok A l.length l ∧ Node W ok p t ∧ endF k t n lw = some l
structure RInv (W : World) (ok : Nat → Prop) (g bm : Nat) (Aw : Option Addr) (cw : Nat) (lw : List Int) : Prop where
  blk : W.heap[g]? = some (.cells #[.slice Aw lw.length cw, .map (some bm)] 94 (0, 0))
  okg : ok g
  nok : ¬ ok bm
  cap : lw.length ≤ cw
  row : Kd.F (Kd.int .i64) W ok Aw lw.length lw
  map : ∃ es clk, W.heap[bm]? = some (.map es clk) ∧ ∀ e ∈ es.toList, Entry W ok lw e
section
variable {W W1 : World} {ok ok' : Nat → Prop} {g bm : Nat} {Aw : Option Addr} {cw : Nat} {lw : List Int}
theorem Entry.mono {e : MapEntry} (h : Entry W ok lw e) (hok : ∀ k, ok k → ok' k) : Entry W ok' lw e := by
  obtain ⟨p, n, t, k, l, A, c, h1, h2, h3, h4, h5, h6⟩ := h
  exact ⟨p, n, t, k, l, A, c, h1, h2, h3, Kd.F_mono h4 hok, h5.mono hok, h6⟩
theorem Entry.bound {e : MapEntry} (h : Entry W ok lw e) : Entry W (fun k => ok k ∧ k < W.heap.size) lw e := by
  obtain ⟨p, n, t, k, l, A, c, h1, h2, h3, h4, h5, h6⟩ := h
  exact ⟨p, n, t, k, l, A, c, h1, h2, h3, Kd.F_bound h4, h5.bound, h6⟩
theorem Entry.step {e : MapEntry} (h : Entry W ok lw e) (hm : ∀ k, ok k → k < W.heap.size → W1.heap[k]? = W.heap[k]?) : Entry W1 ok lw e := by
  obtain ⟨p, n, t, k, l, A, c, h1, h2, h3, h4, h5, h6⟩ := h
  exact ⟨p, n, t, k, l, A, c, h1, h2, h3, Kd.F_step h4 hm, h5.step hm, h6⟩
theorem RInv.glt (h : RInv W ok g bm Aw cw lw) : g < W.heap.size := (Array.getElem?_eq_some_iff.1 h.blk).1
theorem RInv.blt (h : RInv W ok g bm Aw cw lw) : bm < W.heap.size := by
  obtain ⟨_, _, hb, _⟩ := h.map
  exact (Array.getElem?_eq_some_iff.1 hb).1
theorem RInv.mono (h : RInv W ok g bm Aw cw lw) (hok : ∀ k, ok k → ok' k) (hno : ¬ ok' bm) : RInv W ok' g bm Aw cw lw := by
  obtain ⟨es, clk, hb, he⟩ := h.map
  exact ⟨h.blk, hok _ h.okg, hno, h.cap, Kd.F_mono h.row hok, es, clk, hb, fun e hm => (he e hm).mono hok⟩
theorem RInv.bound (h : RInv W ok g bm Aw cw lw) : RInv W (fun k => ok k ∧ k < W.heap.size) g bm Aw cw lw := by
  obtain ⟨es, clk, hb, he⟩ := h.map
  exact ⟨h.blk, ⟨h.okg, h.glt⟩, fun h' => h.nok h'.1, h.cap, Kd.F_bound h.row, es, clk, hb, fun e hm => (he e hm).bound⟩
theorem RInv.step (h : RInv W ok g bm Aw cw lw) (hm : ∀ k, ok k → k < W.heap.size → W1.heap[k]? = W.heap[k]?) (hbm : W1.heap[bm]? = W.heap[bm]?) : RInv W1 ok g bm Aw cw lw := by
  obtain ⟨es, clk, hb, he⟩ := h.map
  exact ⟨(hm _ h.okg h.glt).trans h.blk, h.okg, h.nok, h.cap, Kd.F_step h.row hm, es, clk, hbm.trans hb, fun e hm' => (he e hm').step hm⟩
theorem KeysOk.of {es : List MapEntry} (h : ∀ e ∈ es, Entry W ok lw e) : KeysOk W es := fun e he => by
  obtain ⟨p, n, t, k, l, A, c, h1, h2, h3, h4, h5, h6⟩ := h e he
  exact ⟨p, n, h1, h5.2.2.1⟩
end
/-! #### the state of a call: the row it writes (its own), the reader -/
def Same (w W : World) : Prop := W.os = w.os ∧ W.tape = w.tape ∧ W.output = w.output
theorem Same.refl (w : World) : Same w w := ⟨rfl, rfl, rfl⟩
theorem Same.trans {a b c : World} (h : Same a b) (k : Same b c) : Same a c := ⟨k.1.trans h.1, k.2.1.trans h.2.1, k.2.2.trans h.2.2⟩
theorem Same.of_below {n : Nat} {a b : World} (h : Below n a b) : Same a b := ⟨h.os, h.tape, h.output⟩
abbrev sv (b n c : Nat) : Value := .slice (some ⟨b, 0, none⟩) n c
structure Inv (w W : World) (ok : Nat → Prop) (g bm : Nat) (Aw : Option Addr) (cw : Nat) (lw : List Int) (n b c : Nat) (l : List Bool) : Prop where
  nn : n = lw.length + 1
  same : Same w W
  kept : Kept w W (fun k => k = bm)
  base : w.heap.size ≤ b
  lt : b < W.heap.size
  own : Kd.R Kd.bool 4 W w.heap.size (fun k => k = b) (sv b n c) l
  inv : RInv W (fun k => ok k ∧ k ≠ b) g bm Aw cw lw
theorem bool_one {W : World} {e base b n c : Nat} {ok : Nat → Prop} {l : List Bool} (h : Kd.R Kd.bool e W base ok (sv b n c) l) : Kd.R Kd.bool e W base (fun k => k = b) (sv b n c) l :=
  ⟨fun k hk => by simp only [Value.ownBlock, Option.map_some, Option.some.injEq] at hk; exact hk.symm, h.2⟩
theorem row_made {W W1 : World} {base m n : Nat} (hn : n = m + 1) {ok : Nat → Prop} {v : Value} (hv : Kd.R Kd.bool 4 W1 base ok v (List.replicate n false)) (hat : ∃ b, v.ownBlock = some b ∧ W.heap.size ≤ b) :
    ∃ b c, v = sv b n c ∧ W.heap.size ≤ b ∧ b < W1.heap.size ∧ Kd.R Kd.bool 4 W1 base (fun k => k = b) (sv b n c) (List.replicate n false) := by
  obtain ⟨b, c, e, h1, h2, h3⟩ := Kd.R_form hv (by rw [List.length_replicate]; omega)
  rw [List.length_replicate] at e
  subst e
  obtain ⟨b', e, h4⟩ := hat
  simp only [Value.ownBlock, Option.map_some, Option.some.injEq] at e
  subst e
  exact ⟨b, c, rfl, h4, h2, bool_one hv⟩
section
variable {w W W1 : World} {ok okn : Nat → Prop} {g bm : Nat} {Aw : Option Addr} {cw : Nat} {lw : List Int} {n b c : Nat} {l : List Bool}
theorem Inv.made (hn : n = lw.length + 1) (hs : Same w W) (hk : Kept w W (fun k => k = bm)) (hR : RInv W ok g bm Aw cw lw) (hg : W.grownBy W1 none) (hb : W.heap.size ≤ b) (hlt : b < W1.heap.size)
    (ho : Kd.R Kd.bool 4 W1 w.heap.size (fun k => k = b) (sv b n c) l) : Inv w W1 ok g bm Aw cw lw n b c l where
  nn := hn
  same := hs.trans ⟨hg.os, hg.tape, hg.output⟩
  kept := Kept.of_grown hg hk (fun k e => by cases e)
  base := Nat.le_trans hk.1 hb
  lt := hlt
  own := ho
  inv := by
    refine (hR.bound.step (W1 := W1) (fun k hk hlt => hg.block k hlt (by simp)) (hg.block bm hR.blt (by simp))).mono (fun k hk => ⟨hk.1, by have := hk.2; omega⟩) (fun h => hR.nok h.1)
theorem Inv.set (h : Inv w W ok g bm Aw cw lw n b c l) (hbm : bm < w.heap.size) (i : Nat) (x : Bool) : Inv w (W.setCell ⟨b, i, none⟩ (.bool x)) ok g bm Aw cw lw n b c (l.set i x) := by
  have hp := Kd.R_putg h.own (i : Int) x
  simp only [Int.toNat_natCast] at hp
  have hb := h.base
  refine ⟨h.nn, h.same.trans ⟨hp.2.os, hp.2.tape, hp.2.output⟩, Kept.of_grown hp.2 h.kept (fun k e => .inr (by injection e with e; omega)), h.base, by simpa [World.setCell] using h.lt, hp.1, ?_⟩
  exact h.inv.step (fun k hk _ => Below.heap_setCell W ⟨b, i, none⟩ _ k hk.2) (Below.heap_setCell W ⟨b, i, none⟩ _ bm (by show bm ≠ b; omega))
theorem Inv.weak (h : Inv w W okn g bm Aw cw lw n b c l) (hok : ∀ k, okn k → ok k) (hno : ¬ ok bm) : Inv w W ok g bm Aw cw lw n b c l :=
  ⟨h.nn, h.same, h.kept, h.base, h.lt, h.own, h.inv.mono (fun k hk => ⟨hok k hk.1, hk.2⟩) (fun h' => hno h'.1)⟩
theorem Inv.cell (h : Inv w W ok g bm Aw cw lw n b c l) {q o : Nat} {v : Value} (hlt : q < w.heap.size) (hne : q ≠ bm) (hc : w.cell? ⟨q, o, none⟩ = some v) : W.cell? ⟨q, o, none⟩ = some v :=
  cell_keep (h.kept.2 q hlt hne) hc
theorem Inv.cellb (h : Inv w W ok g bm Aw cw lw n b c l) (i : Nat) (hi : i < n) : W.cell? ⟨b, i, none⟩ = some (.bool (rdOf false l (i : Int))) ∧ W.frozen? ⟨b, i, none⟩ = false := by
  have := Kd.R_celln false h.own (i : Int) (by omega) (by omega)
  simpa only [Int.toNat_natCast] using this
theorem Inv.len (h : Inv w W ok g bm Aw cw lw n b c l) : l.length = n := (Kd.R_reads' h.own).1.symm
theorem Inv.node (h : Inv w W ok g bm Aw cw lw n b c l) {p : Addr} {t : S28} (hN : Node w okn p t) (hn : ∀ k, okn k → k ≠ bm) (hok : ∀ k, okn k → k < w.heap.size → ok k) : Node W (fun k => ok k ∧ k ≠ b) p t := by
  have hb := h.base
  exact (hN.bound.step (W1 := W) (fun k hk hlt => h.kept.2 k hlt (hn k hk.1))).mono (fun k hk => ⟨hok k hk.1 hk.2, by have := hk.2; omega⟩)
theorem below_trunc (W : World) (n : Nat) (hn : n ≤ W.heap.size) : Below n { W with heap := W.heap.extract 0 n } W :=
  ⟨rfl, rfl, rfl, by simp; omega, fun k hk => by simp only [Array.getElem?_extract]; rw [if_pos (by omega)]; simp⟩
theorem Inv.join (h : Inv w W ok g bm Aw cw lw n b c l) (hbm : bm < w.heap.size) {A : Option Addr} {cm : Nat} {m o : List Bool} {f : Nat} (hm : Kd.F Kd.bool W (fun k => ok k ∧ k ≠ b) A m.length m) (hc : m.length ≤ cm) (hj : expr_join.f f l m = some o) :
    Calls Try.prog 70 #[sv b n c, .slice A m.length cm] W fun e W' => e = .returned (.tuple #[]) ∧ Inv w W' ok g bm Aw cw lw n b c o ∧ Kept W W' (fun k => k = b) := by
  have hsz : ({ W with heap := W.heap.extract 0 w.heap.size } : World).heap.size = w.heap.size := by simp; exact Nat.min_eq_left h.kept.1
  have hb := h.base
  refine (expr_join.calls f (fun k => k = b) (sv b n c) l A cm m o { W with heap := W.heap.extract 0 w.heap.size } W (by rw [hsz]; exact below_trunc W _ h.kept.1) (by rw [hsz]; exact h.own) (fun W' hk => Kd.F_now (Kd.F_kept hm hk (fun k hk => hk.2))) hc hj).mono ?_
  rintro e W' ⟨he, h1, h2, h3⟩
  rw [hsz] at h1
  refine ⟨he, ⟨h.nn, h.same.trans (show Same W W' from ⟨h2.os, h2.tape, h2.output⟩), h.kept.then_ h3 (fun k hk => .inr (by omega)), h.base, Nat.lt_of_lt_of_le h.lt h3.1, bool_one h1, ?_⟩, h3⟩
  exact h.inv.step (fun k hk hlt => h3.2 k hlt hk.2) (h3.2 bm h.inv.blt (by omega))
end
section
variable {P : Program} {ops : Array Oper} {Q : Exit → Act → World → Prop} {o : Oper} {rest : List Oper} {a : Act} {W w1 : World}
theorem gate_map {m k v : Tmp} (_h : o.op = .mapUpdate 92 (.tmp m) (.tmp k) (.tmp v)) (h : wpList P ops Q (o :: rest) a W) : wpList P ops Q (o :: rest) a W := h
theorem plain_event (hgd : o.guard = none) (hN : o.dst = none) (hrun : (execOp a.eval o).run P W = .ok .skip w1) (h : ∀ w', w' = w1 → wpList P ops Q rest a w') : wpList P ops Q (o :: rest) a W := by
  refine wpList_plain hgd fun K hK => ?_
  unfold Oper.wp
  rw [hrun]
  show K (a.put o.dst undef) w1
  rw [hN]
  exact hK _ _ (h _ rfl)
end
/-- What is kept under a pointer and a place. -/
theorem Inv.stored {w W W' : World} {ok : Nat → Prop} {g bm : Nat} {Aw : Option Addr} {cw : Nat} {lw : List Int} {n b c : Nat} {l : List Bool} (h : Inv w W ok g bm Aw cw lw n b c l) (hbm : bm < w.heap.size) (hokb : ok b) (hno : ¬ ok bm) {p : Addr} {t : S28} {at_ k : Nat} (hN : Node W ok p t) (hf : endF k t at_ lw = some l)
    (hl : l.length ≤ c) {es es' : Array MapEntry} {clk clk' : Nat} (hb0 : W.heap[bm]? = some (.map es clk)) (hE : ∀ e ∈ es.toList, Entry W (fun k => ok k ∧ k ≠ b) lw e) (hW : W' = { W with heap := W.heap.setIfInBounds bm (.map es' clk') }) (hes : ∀ e ∈ es'.toList, e ∈ es.toList ∨ e.key = keyV p at_ ∧ e.val = sv b n c) :
    Kd.F Kd.bool W' ok (some ⟨b, 0, none⟩) l.length l ∧ RInv W' ok g bm Aw cw lw ∧ Kept w W' (fun j => j = bm) ∧ Same w W' := by
  have hb := h.base
  have hk : ∀ k, k ≠ bm → W'.heap[k]? = W.heap[k]? := fun k hk => by rw [hW]; simp [Ne.symm hk]
  have hbl : W'.heap[bm]? = some (.map es' clk') := by rw [hW]; simp [h.inv.blt]
  have hle := h.len
  have hrow : Kd.F Kd.bool W ok (some ⟨b, 0, none⟩) l.length l := by
    have := Kd.R_F h.own
    rw [← hle] at this
    exact Kd.F_mono this (fun k hk => hk ▸ hokb)
  have hrow' := Kd.F_step (W1 := W') hrow (fun k hk' _ => hk k (fun e => hno (e ▸ hk')))
  refine ⟨hrow', ⟨(hk g (fun e => hno (e ▸ h.inv.okg.1))).trans h.inv.blk, h.inv.okg.1, hno, h.inv.cap, Kd.F_step (Kd.F_mono h.inv.row (fun k hk => hk.1)) (fun k hk' _ => hk k (fun e => hno (e ▸ hk'))), es', clk', hbl, fun e he => ?_⟩, ⟨by rw [hW]; simpa using h.kept.1, fun i hi hn => (hk i hn).trans (h.kept.2 i hi hn)⟩, ?_⟩
  · rcases hes e he with he | ⟨he1, he2⟩
    · exact ((hE e he).mono (fun k hk => hk.1)).step (fun k hk' _ => hk k (fun e => hno (e ▸ hk')))
    · exact ⟨p, at_, t, k, l, some ⟨b, 0, none⟩, c, he1, by rw [he2, hle], hl, hrow', hN.step (fun k hk' _ => hk k (fun e => hno (e ▸ hk'))), hf⟩
  · rw [hW]; exact h.same
def Post (W : World) (ok : Nat → Prop) (g bm : Nat) (Aw : Option Addr) (cw : Nat) (lw : List Int) (r : List Bool) (e : Ending) (W' : World) : Prop :=
  ∃ A c, e = .returned (.slice A r.length c) ∧ r.length ≤ c ∧ Kd.F Kd.bool W' ok A r.length r ∧ RInv W' ok g bm Aw cw lw ∧ Kept W W' (fun j => j = bm) ∧ Same W W'
def EndS (k : Nat) : Prop := ∀ (t : S28) (at_ : Nat) (r : List Bool) (p : Addr) (g bm : Nat) (Aw : Option Addr) (cw : Nat) (lw : List Int) (ok : Nat → Prop) (W : World),
  endF k t at_ lw = some r → RInv W ok g bm Aw cw lw → Node W ok p t → (∀ j, W.heap.size ≤ j → ok j) →
  Calls Try.prog 49 #[.pointer (some ⟨g, 0, none⟩), .pointer (some p), .int .i64 (at_ : Int)] W (Post W ok g bm Aw cw lw r)
def EndK (k : Nat) (c : S28 → Prop) : Prop := ∀ (t : S28) (at_ : Nat) (r : List Bool) (p : Addr) (g bm : Nat) (Aw : Option Addr) (cw : Nat) (lw : List Int) (ok : Nat → Prop) (W : World),
  c t → endF (k + 1) t at_ lw = some r → RInv W ok g bm Aw cw lw → Node W ok p t → (∀ j, W.heap.size ≤ j → ok j) →
  Calls Try.prog 49 #[.pointer (some ⟨g, 0, none⟩), .pointer (some p), .int .i64 (at_ : Int)] W (Post W ok g bm Aw cw lw r)
theorem found {W : World} {ok : Nat → Prop} {lw : List Int} {p : Addr} {t : S28} {at_ k : Nat} {r : List Bool} {e : MapEntry} (h : endF k t at_ lw = some r) (hN : Node W ok p t) (hE : Entry W ok lw e) (hk : e.key = keyV p at_) :
    ∃ A c, e.val = .slice A r.length c ∧ r.length ≤ c ∧ Kd.F Kd.bool W ok A r.length r := by
  obtain ⟨p', n, t', k', l, A, c, h1, h2, h3, h4, h5, h6⟩ := hE
  rw [h1] at hk
  unfold keyV at hk
  injection hk with hk
  simp only [Array.mk.injEq, List.cons.injEq, Value.pointer.injEq, Option.some.injEq, Value.int.injEq, Int.natCast_inj, true_and, and_true] at hk
  obtain ⟨rfl, rfl⟩ := hk
  obtain rfl := Node.unique _ _ _ _ (Nat.lt_succ_self _) hN h5
  obtain rfl := endF_one h h6
  exact ⟨A, c, h2, h3, h4⟩
section
variable {w W : World} {ok okn : Nat → Prop} {g bm : Nat} {Aw : Option Addr} {cw : Nat} {lw : List Int} {n b c : Nat} {l : List Bool}
/-- A call of 'end' in the middle. -/
theorem Inv.call {k : Nat} (ih : EndS k) (h : Inv w W ok g bm Aw cw lw n b c l) (hbm : bm < w.heap.size) (hfr : ∀ j, W.heap.size ≤ j → ok j) {p : Addr} {t : S28} {at_ : Nat} {m : List Bool} (hN : Node w okn p t) (hn : ∀ k, okn k → k ≠ bm) (hok : ∀ k, okn k → k < w.heap.size → ok k) (hf : endF k t at_ lw = some m) :
    Calls Try.prog 49 #[.pointer (some ⟨g, 0, none⟩), .pointer (some p), .int .i64 (at_ : Int)] W fun e W' => ∃ A cm, e = .returned (.slice A m.length cm) ∧ m.length ≤ cm ∧ Kd.F Kd.bool W' (fun k => ok k ∧ k ≠ b) A m.length m ∧ Inv w W' ok g bm Aw cw lw n b c l ∧ Kept W W' (fun k => k = bm) := by
  have hb := h.base
  refine (ih t at_ m p g bm Aw cw lw (fun k => ok k ∧ k ≠ b) W hf h.inv (h.node hN hn hok) (fun j hj => ⟨hfr j hj, by have := h.lt; omega⟩)).mono ?_
  rintro e W' ⟨A, cm, he, h1, h2, h3, h4, h5⟩
  exact ⟨A, cm, he, h1, h2, ⟨h.nn, h.same.trans h5, h.kept.then_ h4 (fun k hk => .inl hk), h.base, Nat.lt_of_lt_of_le h.lt h4.1, Kd.R_step h.own (fun k hk hlt => h4.2 k hlt (by omega)), h3⟩, h4⟩
end
end Go.Proofs.Ytodbnnfiadcbaaa.P
namespace Go.Proofs.Ytodbnnfiadcbaaa.P
open Go.RowKit Go.Proofs.YtodbnnfiadcbaaaW.PrintWords Go.Proofs.YtodbnnfiadcbaaaW.PrintLast Go.Proofs.YtodbnnfiadcbaaaW.PrintMore
attribute [local go_sem] max2_int min2_int max_two min_two max_three min_three max_four min_four
set_option linter.unusedVariables false
set_option linter.unusedSimpArgs false
set_option maxHeartbeats 8000000 in
set_option maxRecDepth 100000 in
theorem reader_is_calls {W : World} {ok : Nat → Prop} {g bm : Nat} {Aw : Option Addr} {cw : Nat} {lw : List Int} (h : RInv W ok g bm Aw cw lw) (i : Nat) (s : Int) :
    Calls Try.prog 69 #[.pointer (some ⟨g, 0, none⟩), .int .i64 (i : Int), .int .i64 s] W fun e W' => e = .returned (.bool (isB lw i s)) ∧ W = W' := by
  have hc0 : W.cell? ⟨g, 0, none⟩ = some (.slice Aw lw.length cw) := (blk_cell h.blk 0).trans rfl
  by_cases hi : i < lw.length
  · obtain ⟨ad, e, hx⟩ := Kd.at_int (Kd.F_now h.row) (i : Int) (by omega) (by omega)
    have hS : isB lw i s = (rd lw (i : Int) == s) := by
      unfold isB
      rw [decide_eq_true hi, Bool.true_and]
    have c1 : decide ((i : Int) < (lw.length : Int)) = true := decide_eq_true (by omega)
    have p1 : (0 ≤ (i : Int)) = True := eq_true (by omega)
    have p2 : ((i : Int) < (lw.length : Int)) = True := eq_true (by omega)
    rw [hS]
    subst e
    rw [Int.toNat_natCast] at hx
    go_enter Try.func69, Try.ntmps69
    go_wp2
    go_ret
    exact ⟨rfl, rfl⟩
  · have hS : isB lw i s = false := by
      unfold isB
      rw [decide_eq_false hi, Bool.false_and]
    have c1 : decide ((i : Int) < (lw.length : Int)) = false := decide_eq_false (by omega)
    rw [hS]
    go_enter Try.func69, Try.ntmps69
    go_wp2
    go_ret
    exact ⟨rfl, rfl⟩
end Go.Proofs.Ytodbnnfiadcbaaa.P
