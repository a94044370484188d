/- WordKnown holds: these twelve texts are refused just there, by just that error; no condition beside the row's own. -/
import Derived.Test.YtiibfkjfanglbaaPx35
import Derived.Test.YtiibfkjfanglbaaWordLib
import Derived.KernelRfl
namespace Go.Proofs.Ytiibfkjfanglbaa.Pure
open Go.RowKit Go.Proofs.Ytiibfkjfanglbaa.P Go.Proofs.YtiibfkjfanglbaaW.PrintWords Go.Proofs.YtiibfkjfanglbaaW.PrintLast Go.Proofs.YtiibfkjfanglbaaW.PrintMore Go.Proofs.YtiibfkjfanglbaaL
theorem known_mod (k : Nat) (a : Int) : canopylaw1_WordKnown.f k a = canopylaw1_WordKnown.f k (a % 12) := by
  have h : canopylaw1_within.f a ((12 : Nat) : Int) = canopylaw1_within.f (a % 12) ((12 : Nat) : Int) := by
    rw [within_eq _ _ (by omega) (by omega), within_eq _ _ (by omega) (by omega)]
    congr 1
    omega
  simp only [canopylaw1_WordKnown.f, Option.bind_some, List.length_cons, List.length_nil, Nat.zero_add, Nat.reduceAdd, h]
theorem known0 : canopylaw1_WordKnown.f 60 0 = some true := by kernel_rfl
theorem known1 : canopylaw1_WordKnown.f 60 1 = some true := by kernel_rfl
theorem known2 : canopylaw1_WordKnown.f 60 2 = some true := by kernel_rfl
theorem known3 : canopylaw1_WordKnown.f 60 3 = some true := by kernel_rfl
theorem known4 : canopylaw1_WordKnown.f 60 4 = some true := by kernel_rfl
theorem known5 : canopylaw1_WordKnown.f 60 5 = some true := by kernel_rfl
theorem known6 : canopylaw1_WordKnown.f 60 6 = some true := by kernel_rfl
theorem known7 : canopylaw1_WordKnown.f 60 7 = some true := by kernel_rfl
theorem known8 : canopylaw1_WordKnown.f 60 8 = some true := by kernel_rfl
theorem known9 : canopylaw1_WordKnown.f 60 9 = some true := by kernel_rfl
theorem known10 : canopylaw1_WordKnown.f 60 10 = some true := by kernel_rfl
theorem known11 : canopylaw1_WordKnown.f 60 11 = some true := by kernel_rfl
theorem WordKnown : canopylaw1_WordKnown.Pure := by
  intro a _
  refine ⟨60, ?_⟩
  rw [known_mod]
  have a0 := Int.emod_nonneg a (show (12 : Int) ≠ 0 by omega)
  have a1 := Int.emod_lt_of_pos a (show (0 : Int) < 12 by omega)
  generalize a % 12 = q at *
  have : q = 0 ∨ q = 1 ∨ q = 2 ∨ q = 3 ∨ q = 4 ∨ q = 5 ∨ q = 6 ∨ q = 7 ∨ q = 8 ∨ q = 9 ∨ q = 10 ∨ q = 11 := by omega
  rcases this with rfl | rfl | rfl | rfl | rfl | rfl | rfl | rfl | rfl | rfl | rfl | rfl
  · exact known0
  · exact known1
  · exact known2
  · exact known3
  · exact known4
  · exact known5
  · exact known6
  · exact known7
  · exact known8
  · exact known9
  · exact known10
  · exact known11
end Go.Proofs.Ytiibfkjfanglbaa.Pure
