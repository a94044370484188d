/- canopylaw5.turned walked: a byte of a text turned. -/
import Derived.Test.YtodbnnfiadcbaaaVcOld
import Derived.Laws.IdiomStrings
import Derived.Lib.ConvBytes
set_option linter.unusedVariables false
set_option linter.unusedSimpArgs false
set_option linter.unusedSectionVars false
open Go.Proofs.Ytodbnnfiadcbaaa.P
namespace Go.Proofs.Ytodbnnfiadcbaaa.P
open Go.RowKit Go.Proofs.YtodbnnfiadcbaaaW.PrintWords Go.Proofs.YtodbnnfiadcbaaaW.PrintLast Go.Proofs.YtodbnnfiadcbaaaW.PrintMore
set_option linter.unusedVariables false
theorem bytes_below {B : Nat} {w W : World} (h : Below B w W) (hB : B ≤ W.heap.size) (e : TypeId) (s : ByteArray) : Below B w (Lib.bytesWorld W e s) :=
  h.trans ⟨rfl, rfl, rfl, by rw [Lib.bytesWorld_size]; omega, fun i hi => Lib.bytesWorld_at_old W e s i (by omega)⟩
theorem canopylaw5_turned.cells (a0 : ByteArray) (t : Int) (v : Int) (w : World) (h0 : 0 ≤ t) (h1 : t < (a0.size : Int)) (v0 : 0 ≤ v) (v1 : v < 256) : ∀ j (hj : j < (a0.data.toList.set t.toNat (UInt8.ofNat v.toNat)).length),
    ((Lib.bytesWorld w 5 a0).setCell ⟨w.heap.size, t.toNat, none⟩ (.int .u8 v)).cell? ((⟨w.heap.size, 0, none⟩ : Addr).add j) = some (.int .u8 ((a0.data.toList.set t.toNat (UInt8.ofNat v.toNat))[j].toNat : Int)) := by
  intro j hj
  have hl : j < a0.size := by rw [List.length_set, Array.length_toList] at hj; exact hj
  have e : (⟨w.heap.size, 0, none⟩ : Addr).add j = ⟨w.heap.size, j, none⟩ := by
    unfold Addr.add
    by_cases hz : j = 0
    · subst hz; simp
    · simp [hz]
  rw [e]
  have hc := Lib.bytesWorld_cell w 5 a0 j hl
  by_cases hjt : t.toNat = j
  · subst hjt
    rw [World.cell?_setCell_same _ _ _ hc, List.getElem_set_self]
    congr 2
    have hlt : v.toNat < 256 := by omega
    rw [UInt8.toNat_ofNat_of_lt' hlt]
    omega
  · rw [World.cell?_setCell_other _ _ _ _ (by intro h; injection h with _ h2; exact hjt h2), hc, List.getElem_set_ne hjt]
    simp [List.getD, hl]
set_option maxHeartbeats 8000000 in
set_option maxRecDepth 100000 in
theorem canopylaw5_turned.calls (a0 : ByteArray) (a1 : Int) (a2 : Int) (r : ByteArray) (w : World) (h : canopylaw5_turned.f a0 a1 a2 = some r) :
    Calls Try.prog 23 #[.string a0, .int .i64 a1, .int .u8 a2] w fun e w' => e = .returned (.string r) ∧ Below w.heap.size w w' := by
  unfold canopylaw5_turned.f at h
  by_cases hz : a0.toList = []
  · rw [if_pos hz] at h
    obtain rfl := Option.some.inj h
    have hzb : (a0.toList == []) = true := beq_iff_eq.mpr hz
    go_enter Try.func23, Try.ntmps23
    go_wp2
    go_ret
    exact ⟨rfl, Below.refl _ _⟩
  · rw [if_neg hz] at h
    have hzb : (a0.toList == []) = false := beq_eq_false_iff_ne.mpr hz
    obtain ⟨t, A, h⟩ := Option.bind_eq_some_iff.mp h
    have A1 := Aside0.mk A
    clear A
    by_cases h0 : 0 ≤ t
    · rw [if_pos h0] at h
      by_cases h1 : t < (a0.size : Int)
      · rw [if_pos h1] at h
        obtain rfl := Option.some.inj h
        have c0 : decide (0 ≤ t) = true := decide_eq_true h0
        have c1 : decide (t < (a0.size : Int)) = true := decide_eq_true h1
        have kc := fun (w : World) => Lib.run_convert_string_bytes (P := Try.prog) w 9 80 5 a0 Try.underlying9 Try.underlying80 Try.underlying5
        have hbt : ((a0.data.toList.getD t.toNat 0).toNat : Int) = bt a0 t := by
          have hlt : t.toNat < a0.size := by omega
          unfold bt
          rw [dif_pos hlt]
          have : t.toNat < a0.data.size := hlt
          simp only [List.getD_eq_getElem?_getD, Array.getElem?_toList, Array.getElem?_eq_getElem this, Option.getD_some]
          rfl
        have hcell : (Lib.bytesWorld w 5 a0).cell? ⟨w.heap.size, t.toNat, none⟩ = some (.int .u8 (bt a0 t)) := by
          rw [Lib.bytesWorld_cell w 5 a0 t.toNat (by omega), hbt]
        have hfroz : (Lib.bytesWorld w 5 a0).frozen? ⟨w.heap.size, t.toNat, none⟩ = false := by
          have hn : t.toNat < (Lib.bytesCells w 5 a0).size := by
            unfold Lib.bytesCells
            rw [Array.size_append, Array.size_map]
            have : a0.data.size = a0.size := rfl
            omega
          simp only [World.frozen?, Lib.bytesWorld_at_new]
          simp
          omega
        have hv0 : 0 ≤ (bt a0 t + a2) % 256 := Int.emod_nonneg _ (by omega)
        have hv1 : (bt a0 t + a2) % 256 < 256 := Int.emod_lt_of_pos _ (by omega)
        have kb : (convert 80 9 (.slice (some ⟨w.heap.size, 0, none⟩) a0.size (grownCap w a0.size 0 5))).run Try.prog ((Lib.bytesWorld w 5 a0).setCell ⟨w.heap.size, t.toNat, none⟩ (.int .u8 ((bt a0 t + a2) % 256))) = .ok (.string ⟨(a0.data.toList.set t.toNat (UInt8.ofNat ((bt a0 t + a2) % 256).toNat)).toArray⟩) ((Lib.bytesWorld w 5 a0).setCell ⟨w.heap.size, t.toNat, none⟩ (.int .u8 ((bt a0 t + a2) % 256))) := by
          have := run_convert_bytes_back (P := Try.prog) ((Lib.bytesWorld w 5 a0).setCell ⟨w.heap.size, t.toNat, none⟩ (.int .u8 ((bt a0 t + a2) % 256))) 80 9 5 ⟨w.heap.size, 0, none⟩ (grownCap w a0.size 0 5) (a0.data.toList.set t.toNat (UInt8.ofNat ((bt a0 t + a2) % 256).toNat)) Try.underlying80 Try.underlying5 Try.underlying9 (canopylaw5_turned.cells a0 t _ w h0 h1 hv0 hv1)
          rw [List.length_set, Array.length_toList] at this
          exact this
        have HB : Aside0 (Below w.heap.size w ((Lib.bytesWorld w 5 a0).setCell ⟨w.heap.size, t.toNat, none⟩ (.int .u8 ((bt a0 t + a2) % 256)))) := ⟨below_set (bytes_below (Below.refl _ _) (Nat.le_refl _) 5 a0) (Nat.le_refl _)⟩
        clear hbt hv0 hv1 h
        go_enter Try.func23, Try.ntmps23
        go_wp2_with (first | ((with_reducible refine gate_callee (f := 22) rfl ?_); refine goesL_ (some 17) rfl rfl Try.func22 (by kernel_rfl) rfl #[.int .i64 a1, .int .i64 (a0.size : Int)] rfl (by (try simp only [List.map_toArray, List.map_cons, List.map_nil]); first | done | rfl) ?_; (with_reducible refine (canopylaw5_within.calls a1 (a0.size : Int) t _ A1.out).mono ?_); rintro e w' ⟨rfl, rfl⟩; refine ⟨_, rfl, ?_⟩))
        go_ret
        exact ⟨rfl, HB.out⟩
      · rw [if_neg h1] at h
        exact absurd h (by simp)
    · rw [if_neg h0] at h
      exact absurd h (by simp)

end Go.Proofs.Ytodbnnfiadcbaaa.P
