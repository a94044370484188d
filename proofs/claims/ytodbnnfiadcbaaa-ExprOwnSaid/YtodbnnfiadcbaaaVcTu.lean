/- canopylaw5.turned walked: a byte of a text turned. -/
import Derived.Test.YtodbnnfiadcbaaaVcOld
import Derived.Laws.IdiomStrings
import Derived.Lib.ConvBytes
set_option linter.unusedVariables false
set_option linter.unusedSimpArgs false
set_option linter.unusedSectionVars false
open Go.Proofs.Ytodbnnfiadcbaaa.P
namespace Go.Proofs.Ytodbnnfiadcbaaa.P
open Go.RowKit Go.Proofs.YtodbnnfiadcbaaaW.PrintWords Go.Proofs.YtodbnnfiadcbaaaW.PrintLast Go.Proofs.YtodbnnfiadcbaaaW.PrintMore
set_option linter.unusedVariables false
end Go.Proofs.Ytodbnnfiadcbaaa.P
