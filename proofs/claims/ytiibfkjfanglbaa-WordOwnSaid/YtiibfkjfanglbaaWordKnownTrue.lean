/- The chapter's own example holds. -/
import Derived.Test.YtiibfkjfanglbaaPx17
import Derived.Test.YtiibfkjfanglbaaWordLib
import Derived.KernelRfl
namespace Go.Proofs.YtiibfkjfanglbaaL
open Go.RowKit Go.Proofs.Ytiibfkjfanglbaa.P Go.Proofs.YtiibfkjfanglbaaW.PrintWords Go.Proofs.YtiibfkjfanglbaaW.PrintLast Go.Proofs.YtiibfkjfanglbaaW.PrintMore
theorem known_true : canopylaw1_known.f 40 = some true := by kernel_rfl
theorem known_ev : Ev (fun k => canopylaw1_known.f k) true := Ev.of canopylaw1_known.mono known_true
end Go.Proofs.YtiibfkjfanglbaaL
