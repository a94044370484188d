import Derived.Test.YtodbnnfiadcbaaaVcXa
import Derived.Test.YtodbnnfiadcbaaaVcP5
set_option linter.unusedVariables false
set_option linter.unusedSimpArgs false
set_option linter.unusedSectionVars false
namespace Go.V.S
open Go.Proofs Go.RowKit Go.Proofs.Ytodbnnfiadcbaaa.P Go.Proofs.YtodbnnfiadcbaaaW.PrintWords Go.Proofs.YtodbnnfiadcbaaaL
set_option maxRecDepth 10000
theorem rCheckT {y : List S56} (hk : kindsB y = true) {e : S28} (h : tsize e ≤ 1000000000) : MV Try.prog 16 [.t (symsE y), treeA e.f0 e.f1 e.f2 e.f3] (.i (treeErr y e)) := by
 obtain ⟨k, hk⟩ := (rcheck_ev y hk e h).rounds
 exact Check16 hk
open Classical in
noncomputable def hasB (e : S28) (w : List Int) : Bool := decide (HasW e w)
theorem hasB_iff (e : S28) (w : List Int) : hasB e w = true ↔ HasW e w := by unfold hasB; simp
theorem HasT {e : S28} {w : List Int} (hw : w.length ≤ 1000000) : MV Try.prog 27 [treeA e.f0 e.f1 e.f2 e.f3, .t (intsE w)] (.b (hasB e w)) := by
 obtain ⟨b, h, hb⟩ := has_ev w hw e
 obtain ⟨k, hk⟩ := h.rounds
 obtain rfl : b = hasB e w := by rw [Bool.eq_iff_iff, hasB_iff]; exact hb
 obtain ⟨e0, e1, e2, es⟩ := e
 exact Has27 hk
end Go.V.S
