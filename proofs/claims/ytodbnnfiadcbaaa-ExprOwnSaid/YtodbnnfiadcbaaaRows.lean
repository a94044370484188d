/-
  No cell of these rows narrows 'for every input' (looked for: loops, veiled, ifaces, maps, wideKeys, modest, calm, conditions, laid).
  DERIVED. THE GIVEN ROWS OF THIS SEAT. 10 by the template 'for every input the law returns true; each argument reads behind the call as it read before'; 0 by the template 'total and deterministic' (their statements: YtodbnnfiadcbaaaTotals.lean).
  GIVEN WITH THE SEED: the statements are not yours to turn. If you find one false, say at which input.
  Laid BY PROGRAM, IN A SANDBOX (cutbox-rows.mjs): the forced cells as the released guide's own fill.sh prints them over the translation 2b951e8f70b29d01… (all of the seat's roots in one cut). By AI agents, Wed Nov 11 2026. No macro, syntax, notation, axiom, sorry.
-/
import Derived.Test.YtodbnnfiadcbaaaChecked
import GoSem.Claim
import GoSem.ClaimJoined
import GoSem.ClaimMapViews
import Derived.JoinedTies
import Derived.KernelRfl
namespace Go.Proofs.Ytodbnnfiadcbaaa
/- THE CELL 'sum', in the pinned program and in every row, IS THE sha256 OF THE DUMP (.gsa) THAT YtodbnnfiadcbaaaProg.lean LOADS. Nothing in Lean hashes anything: it is a label: what it is worth is what the hold of that sum in a sandbox is worth. -/
noncomputable def Try.pinned : Pinned := { name := "ytodbnnfiadcbaaa", sum := "2b951e8f70b29d015b73af7653848c98c308d497ae9e18fcdb7dbdf4f515ef03", checked := Try.checked }
namespace Rows
def none {H : Type} : Left H := { results := [], args := [] }

/-- 'canopylaw5.ExprBack': WHATEVER THE INPUT: true; the input reads as it did. -/
def exprBackSpec : ChangeSpec := { name := "exprBack", fn := fun _ => fun
  | [d1, d2] => { results := [.lit (.bool true)], args := [d1, d2] }
  | _ => none }
def exprBackRow : OpenClaim := { program := "ytodbnnfiadcbaaa", sum := "2b951e8f70b29d015b73af7653848c98c308d497ae9e18fcdb7dbdf4f515ef03", func := "canopy/canopylaw5.ExprBack", spec := "exprBack", inPlace := ["internal/bytealg.IndexByteString", "internal/abi.NoEscape", "internal/bytealg.MakeNoZero"], recurses := true, plainKeys := false, apart := false }
def ExprBackSaid : Prop := exprBackRow.holds Try.pinned (OpenSpec.ofChange exprBackSpec)

/-- ITS FALSE NEIGHBOUR: 'it returns false'. Refute it at one input. -/
def exprBackWrong : ChangeSpec := { name := "exprBack", fn := fun _ => fun
  | [d1, d2] => { results := [.lit (.bool false)], args := [d1, d2] }
  | _ => none }
def ExprBackWrongFalsely : Prop := exprBackRow.holds Try.pinned (OpenSpec.ofChange exprBackWrong)

/-- 'canopylaw5.ExprReads': WHATEVER THE INPUT: true; the input reads as it did. -/
def exprReadsSpec : ChangeSpec := { name := "exprReads", fn := fun _ => fun
  | [d1, d2, d3, d4, d5, d6, d7] => { results := [.lit (.bool true)], args := [d1, d2, d3, d4, d5, d6, d7] }
  | _ => none }
def exprReadsRow : OpenClaim := { program := "ytodbnnfiadcbaaa", sum := "2b951e8f70b29d015b73af7653848c98c308d497ae9e18fcdb7dbdf4f515ef03", func := "canopy/canopylaw5.ExprReads", spec := "exprReads", inPlace := ["internal/bytealg.IndexByteString", "internal/abi.NoEscape", "internal/bytealg.MakeNoZero"], recurses := true, plainKeys := false, apart := false }
def ExprReadsSaid : Prop := exprReadsRow.holds Try.pinned (OpenSpec.ofChange exprReadsSpec)

/-- ITS FALSE NEIGHBOUR: 'it returns false'. Refute it at one input. -/
def exprReadsWrong : ChangeSpec := { name := "exprReads", fn := fun _ => fun
  | [d1, d2, d3, d4, d5, d6, d7] => { results := [.lit (.bool false)], args := [d1, d2, d3, d4, d5, d6, d7] }
  | _ => none }
def ExprReadsWrongFalsely : Prop := exprReadsRow.holds Try.pinned (OpenSpec.ofChange exprReadsWrong)

/-- 'canopylaw5.ExprHas': WHATEVER THE INPUT: true; the input reads as it did. -/
def exprHasSpec : ChangeSpec := { name := "exprHas", fn := fun _ => fun
  | [d1, d2, d3] => { results := [.lit (.bool true)], args := [d1, d2, d3] }
  | _ => none }
def exprHasRow : OpenClaim := { program := "ytodbnnfiadcbaaa", sum := "2b951e8f70b29d015b73af7653848c98c308d497ae9e18fcdb7dbdf4f515ef03", func := "canopy/canopylaw5.ExprHas", spec := "exprHas", inPlace := ["internal/bytealg.IndexByteString", "internal/abi.NoEscape", "internal/bytealg.MakeNoZero"], recurses := true, plainKeys := false, apart := false }
def ExprHasSaid : Prop := exprHasRow.holds Try.pinned (OpenSpec.ofChange exprHasSpec)

/-- ITS FALSE NEIGHBOUR: 'it returns false'. Refute it at one input. -/
def exprHasWrong : ChangeSpec := { name := "exprHas", fn := fun _ => fun
  | [d1, d2, d3] => { results := [.lit (.bool false)], args := [d1, d2, d3] }
  | _ => none }
def ExprHasWrongFalsely : Prop := exprHasRow.holds Try.pinned (OpenSpec.ofChange exprHasWrong)

/-- 'canopylaw5.ExprChecks': WHATEVER THE INPUT: true; the input reads as it did. -/
def exprChecksSpec : ChangeSpec := { name := "exprChecks", fn := fun _ => fun
  | [d1, d2, d3, d4, d5] => { results := [.lit (.bool true)], args := [d1, d2, d3, d4, d5] }
  | _ => none }
def exprChecksRow : OpenClaim := { program := "ytodbnnfiadcbaaa", sum := "2b951e8f70b29d015b73af7653848c98c308d497ae9e18fcdb7dbdf4f515ef03", func := "canopy/canopylaw5.ExprChecks", spec := "exprChecks", inPlace := ["internal/bytealg.IndexByteString", "internal/abi.NoEscape", "internal/bytealg.MakeNoZero"], recurses := true, plainKeys := false, apart := false }
def ExprChecksSaid : Prop := exprChecksRow.holds Try.pinned (OpenSpec.ofChange exprChecksSpec)

/-- ITS FALSE NEIGHBOUR: 'it returns false'. Refute it at one input. -/
def exprChecksWrong : ChangeSpec := { name := "exprChecks", fn := fun _ => fun
  | [d1, d2, d3, d4, d5] => { results := [.lit (.bool false)], args := [d1, d2, d3, d4, d5] }
  | _ => none }
def ExprChecksWrongFalsely : Prop := exprChecksRow.holds Try.pinned (OpenSpec.ofChange exprChecksWrong)

/-- 'canopylaw5.ExprLaws': WHATEVER THE INPUT: true; the input reads as it did. -/
def exprLawsSpec : ChangeSpec := { name := "exprLaws", fn := fun _ => fun
  | [d1, d2, d3, d4, d5] => { results := [.lit (.bool true)], args := [d1, d2, d3, d4, d5] }
  | _ => none }
def exprLawsRow : OpenClaim := { program := "ytodbnnfiadcbaaa", sum := "2b951e8f70b29d015b73af7653848c98c308d497ae9e18fcdb7dbdf4f515ef03", func := "canopy/canopylaw5.ExprLaws", spec := "exprLaws", inPlace := ["internal/bytealg.IndexByteString", "internal/abi.NoEscape", "internal/bytealg.MakeNoZero"], recurses := true, plainKeys := false, apart := false }
def ExprLawsSaid : Prop := exprLawsRow.holds Try.pinned (OpenSpec.ofChange exprLawsSpec)

/-- ITS FALSE NEIGHBOUR: 'it returns false'. Refute it at one input. -/
def exprLawsWrong : ChangeSpec := { name := "exprLaws", fn := fun _ => fun
  | [d1, d2, d3, d4, d5] => { results := [.lit (.bool false)], args := [d1, d2, d3, d4, d5] }
  | _ => none }
def ExprLawsWrongFalsely : Prop := exprLawsRow.holds Try.pinned (OpenSpec.ofChange exprLawsWrong)

/-- 'canopylaw5.ExprKnown': WHATEVER THE INPUT: true; the input reads as it did. -/
def exprKnownSpec : ChangeSpec := { name := "exprKnown", fn := fun _ => fun
  | [d] => { results := [.lit (.bool true)], args := [d] }
  | _ => none }
def exprKnownRow : OpenClaim := { program := "ytodbnnfiadcbaaa", sum := "2b951e8f70b29d015b73af7653848c98c308d497ae9e18fcdb7dbdf4f515ef03", func := "canopy/canopylaw5.ExprKnown", spec := "exprKnown", inPlace := ["internal/bytealg.IndexByteString", "internal/abi.NoEscape", "internal/bytealg.MakeNoZero"], recurses := true, plainKeys := false, apart := false }
def ExprKnownSaid : Prop := exprKnownRow.holds Try.pinned (OpenSpec.ofChange exprKnownSpec)

/-- ITS FALSE NEIGHBOUR: 'it returns false'. Refute it at one input. -/
def exprKnownWrong : ChangeSpec := { name := "exprKnown", fn := fun _ => fun
  | [d] => { results := [.lit (.bool false)], args := [d] }
  | _ => none }
def ExprKnownWrongFalsely : Prop := exprKnownRow.holds Try.pinned (OpenSpec.ofChange exprKnownWrong)

/-- 'canopylaw5.ExprForms': WHATEVER THE INPUT: true; the input reads as it did. -/
def exprFormsSpec : ChangeSpec := { name := "exprForms", fn := fun _ => fun
  | [d] => { results := [.lit (.bool true)], args := [d] }
  | _ => none }
def exprFormsRow : OpenClaim := { program := "ytodbnnfiadcbaaa", sum := "2b951e8f70b29d015b73af7653848c98c308d497ae9e18fcdb7dbdf4f515ef03", func := "canopy/canopylaw5.ExprForms", spec := "exprForms", inPlace := ["internal/bytealg.IndexByteString", "internal/abi.NoEscape", "internal/bytealg.MakeNoZero"], recurses := true, plainKeys := false, apart := false }
def ExprFormsSaid : Prop := exprFormsRow.holds Try.pinned (OpenSpec.ofChange exprFormsSpec)

/-- ITS FALSE NEIGHBOUR: 'it returns false'. Refute it at one input. -/
def exprFormsWrong : ChangeSpec := { name := "exprForms", fn := fun _ => fun
  | [d] => { results := [.lit (.bool false)], args := [d] }
  | _ => none }
def ExprFormsWrongFalsely : Prop := exprFormsRow.holds Try.pinned (OpenSpec.ofChange exprFormsWrong)

/-- 'canopylaw5.ExprDeep': WHATEVER THE INPUT: true; the input reads as it did. -/
def exprDeepSpec : ChangeSpec := { name := "exprDeep", fn := fun _ => fun
  | [d1, d2] => { results := [.lit (.bool true)], args := [d1, d2] }
  | _ => none }
def exprDeepRow : OpenClaim := { program := "ytodbnnfiadcbaaa", sum := "2b951e8f70b29d015b73af7653848c98c308d497ae9e18fcdb7dbdf4f515ef03", func := "canopy/canopylaw5.ExprDeep", spec := "exprDeep", inPlace := ["internal/bytealg.IndexByteString", "internal/abi.NoEscape", "internal/bytealg.MakeNoZero"], recurses := true, plainKeys := false, apart := false }
def ExprDeepSaid : Prop := exprDeepRow.holds Try.pinned (OpenSpec.ofChange exprDeepSpec)

/-- ITS FALSE NEIGHBOUR: 'it returns false'. Refute it at one input. -/
def exprDeepWrong : ChangeSpec := { name := "exprDeep", fn := fun _ => fun
  | [d1, d2] => { results := [.lit (.bool false)], args := [d1, d2] }
  | _ => none }
def ExprDeepWrongFalsely : Prop := exprDeepRow.holds Try.pinned (OpenSpec.ofChange exprDeepWrong)

/-- 'canopylaw5.ExprNest': WHATEVER THE INPUT: true; the input reads as it did. -/
def exprNestSpec : ChangeSpec := { name := "exprNest", fn := fun _ => fun
  | [d1, d2] => { results := [.lit (.bool true)], args := [d1, d2] }
  | _ => none }
def exprNestRow : OpenClaim := { program := "ytodbnnfiadcbaaa", sum := "2b951e8f70b29d015b73af7653848c98c308d497ae9e18fcdb7dbdf4f515ef03", func := "canopy/canopylaw5.ExprNest", spec := "exprNest", inPlace := ["internal/bytealg.IndexByteString", "internal/abi.NoEscape", "internal/bytealg.MakeNoZero"], recurses := true, plainKeys := false, apart := false }
def ExprNestSaid : Prop := exprNestRow.holds Try.pinned (OpenSpec.ofChange exprNestSpec)

/-- ITS FALSE NEIGHBOUR: 'it returns false'. Refute it at one input. -/
def exprNestWrong : ChangeSpec := { name := "exprNest", fn := fun _ => fun
  | [d1, d2] => { results := [.lit (.bool false)], args := [d1, d2] }
  | _ => none }
def ExprNestWrongFalsely : Prop := exprNestRow.holds Try.pinned (OpenSpec.ofChange exprNestWrong)

/-- 'canopylaw5.ExprOwn': WHATEVER THE INPUT: true; the input reads as it did. -/
def exprOwnSpec : ChangeSpec := { name := "exprOwn", fn := fun _ => fun
  | [d1, d2, d3] => { results := [.lit (.bool true)], args := [d1, d2, d3] }
  | _ => none }
def exprOwnRow : OpenClaim := { program := "ytodbnnfiadcbaaa", sum := "2b951e8f70b29d015b73af7653848c98c308d497ae9e18fcdb7dbdf4f515ef03", func := "canopy/canopylaw5.ExprOwn", spec := "exprOwn", inPlace := ["internal/bytealg.IndexByteString", "internal/abi.NoEscape", "internal/bytealg.MakeNoZero"], recurses := true, plainKeys := false, apart := false }
def ExprOwnSaid : Prop := exprOwnRow.holds Try.pinned (OpenSpec.ofChange exprOwnSpec)

/-- ITS FALSE NEIGHBOUR: 'it returns false'. Refute it at one input. -/
def exprOwnWrong : ChangeSpec := { name := "exprOwn", fn := fun _ => fun
  | [d1, d2, d3] => { results := [.lit (.bool false)], args := [d1, d2, d3] }
  | _ => none }
def ExprOwnWrongFalsely : Prop := exprOwnRow.holds Try.pinned (OpenSpec.ofChange exprOwnWrong)

/- THE SECOND FORM. 'bulk': how many values and letters a reading holds, each counted each time it is reached (what is shared counts as often as it is met; a slice's spare places count too). A statement '..UptoSaid' is the law's where the arguments, and the package variables that the reading takes, are together of bulk at most 1048576: NARROWER than '..Said'. Prove '..Said' where nothing that the law and all that it calls make is longer than what came in: it says more and counts as full. Else prove '..UptoSaid'. A law counts once. -/
mutual
def uptoBulk {H : Type} : DataW H → Nat
  | .lit (.string bytes) => bytes.length + 1
  | .lit _ => 1
  | .nil => 1
  | .ptr d => uptoBulk d + 1
  | .slice elems spare => uptoBulkAll elems + uptoBulkAll spare + 1
  | .agg parts => uptoBulkAll parts + 1
  | .iface _ d => uptoBulk d + 1
  | .map entries => uptoBulkEntries entries + 1
  | .held _ => 1
def uptoBulkAll {H : Type} : List (DataW H) → Nat
  | [] => 0
  | d :: r => uptoBulk d + uptoBulkAll r
def uptoBulkEntries {H : Type} : List (Lit × DataW H) → Nat
  | [] => 0
  | x :: r => uptoBulkEntry x + uptoBulkEntries r
def uptoBulkEntry {H : Type} : Lit × DataW H → Nat
  | (.string bytes, d) => bytes.length + uptoBulk d + 1
  | (_, d) => uptoBulk d + 1
 end
def uptoSmall : (H : Type) → List (DataW H) → Bool := fun _ ds => decide (uptoBulkAll ds ≤ 1048576)
def OpenSpec.upto (s : _root_.Go.ChangeSpec) : _root_.Go.OpenSpec := { _root_.Go.OpenSpec.ofChange s with cond := some uptoSmall }

/-- 'canopylaw5.ExprBack', WHERE WHAT IT READS IS OF BULK AT MOST 1048576: true; the input reads as it did. -/
def exprBackUptoRow : OpenClaim := { program := "ytodbnnfiadcbaaa", sum := "2b951e8f70b29d015b73af7653848c98c308d497ae9e18fcdb7dbdf4f515ef03", func := "canopy/canopylaw5.ExprBack", spec := "exprBack", inPlace := ["internal/bytealg.IndexByteString", "internal/abi.NoEscape", "internal/bytealg.MakeNoZero"], recurses := true, plainKeys := false, apart := false, narrowed := true }
def ExprBackUptoSaid : Prop := exprBackUptoRow.holds Try.pinned (OpenSpec.upto exprBackSpec)

/-- 'canopylaw5.ExprReads', WHERE WHAT IT READS IS OF BULK AT MOST 1048576: true; the input reads as it did. -/
def exprReadsUptoRow : OpenClaim := { program := "ytodbnnfiadcbaaa", sum := "2b951e8f70b29d015b73af7653848c98c308d497ae9e18fcdb7dbdf4f515ef03", func := "canopy/canopylaw5.ExprReads", spec := "exprReads", inPlace := ["internal/bytealg.IndexByteString", "internal/abi.NoEscape", "internal/bytealg.MakeNoZero"], recurses := true, plainKeys := false, apart := false, narrowed := true }
def ExprReadsUptoSaid : Prop := exprReadsUptoRow.holds Try.pinned (OpenSpec.upto exprReadsSpec)

/-- 'canopylaw5.ExprHas', WHERE WHAT IT READS IS OF BULK AT MOST 1048576: true; the input reads as it did. -/
def exprHasUptoRow : OpenClaim := { program := "ytodbnnfiadcbaaa", sum := "2b951e8f70b29d015b73af7653848c98c308d497ae9e18fcdb7dbdf4f515ef03", func := "canopy/canopylaw5.ExprHas", spec := "exprHas", inPlace := ["internal/bytealg.IndexByteString", "internal/abi.NoEscape", "internal/bytealg.MakeNoZero"], recurses := true, plainKeys := false, apart := false, narrowed := true }
def ExprHasUptoSaid : Prop := exprHasUptoRow.holds Try.pinned (OpenSpec.upto exprHasSpec)

/-- 'canopylaw5.ExprChecks', WHERE WHAT IT READS IS OF BULK AT MOST 1048576: true; the input reads as it did. -/
def exprChecksUptoRow : OpenClaim := { program := "ytodbnnfiadcbaaa", sum := "2b951e8f70b29d015b73af7653848c98c308d497ae9e18fcdb7dbdf4f515ef03", func := "canopy/canopylaw5.ExprChecks", spec := "exprChecks", inPlace := ["internal/bytealg.IndexByteString", "internal/abi.NoEscape", "internal/bytealg.MakeNoZero"], recurses := true, plainKeys := false, apart := false, narrowed := true }
def ExprChecksUptoSaid : Prop := exprChecksUptoRow.holds Try.pinned (OpenSpec.upto exprChecksSpec)

/-- 'canopylaw5.ExprLaws', WHERE WHAT IT READS IS OF BULK AT MOST 1048576: true; the input reads as it did. -/
def exprLawsUptoRow : OpenClaim := { program := "ytodbnnfiadcbaaa", sum := "2b951e8f70b29d015b73af7653848c98c308d497ae9e18fcdb7dbdf4f515ef03", func := "canopy/canopylaw5.ExprLaws", spec := "exprLaws", inPlace := ["internal/bytealg.IndexByteString", "internal/abi.NoEscape", "internal/bytealg.MakeNoZero"], recurses := true, plainKeys := false, apart := false, narrowed := true }
def ExprLawsUptoSaid : Prop := exprLawsUptoRow.holds Try.pinned (OpenSpec.upto exprLawsSpec)

/-- 'canopylaw5.ExprKnown', WHERE WHAT IT READS IS OF BULK AT MOST 1048576: true; the input reads as it did. -/
def exprKnownUptoRow : OpenClaim := { program := "ytodbnnfiadcbaaa", sum := "2b951e8f70b29d015b73af7653848c98c308d497ae9e18fcdb7dbdf4f515ef03", func := "canopy/canopylaw5.ExprKnown", spec := "exprKnown", inPlace := ["internal/bytealg.IndexByteString", "internal/abi.NoEscape", "internal/bytealg.MakeNoZero"], recurses := true, plainKeys := false, apart := false, narrowed := true }
def ExprKnownUptoSaid : Prop := exprKnownUptoRow.holds Try.pinned (OpenSpec.upto exprKnownSpec)

/-- 'canopylaw5.ExprForms', WHERE WHAT IT READS IS OF BULK AT MOST 1048576: true; the input reads as it did. -/
def exprFormsUptoRow : OpenClaim := { program := "ytodbnnfiadcbaaa", sum := "2b951e8f70b29d015b73af7653848c98c308d497ae9e18fcdb7dbdf4f515ef03", func := "canopy/canopylaw5.ExprForms", spec := "exprForms", inPlace := ["internal/bytealg.IndexByteString", "internal/abi.NoEscape", "internal/bytealg.MakeNoZero"], recurses := true, plainKeys := false, apart := false, narrowed := true }
def ExprFormsUptoSaid : Prop := exprFormsUptoRow.holds Try.pinned (OpenSpec.upto exprFormsSpec)

/-- 'canopylaw5.ExprDeep', WHERE WHAT IT READS IS OF BULK AT MOST 1048576: true; the input reads as it did. -/
def exprDeepUptoRow : OpenClaim := { program := "ytodbnnfiadcbaaa", sum := "2b951e8f70b29d015b73af7653848c98c308d497ae9e18fcdb7dbdf4f515ef03", func := "canopy/canopylaw5.ExprDeep", spec := "exprDeep", inPlace := ["internal/bytealg.IndexByteString", "internal/abi.NoEscape", "internal/bytealg.MakeNoZero"], recurses := true, plainKeys := false, apart := false, narrowed := true }
def ExprDeepUptoSaid : Prop := exprDeepUptoRow.holds Try.pinned (OpenSpec.upto exprDeepSpec)

/-- 'canopylaw5.ExprNest', WHERE WHAT IT READS IS OF BULK AT MOST 1048576: true; the input reads as it did. -/
def exprNestUptoRow : OpenClaim := { program := "ytodbnnfiadcbaaa", sum := "2b951e8f70b29d015b73af7653848c98c308d497ae9e18fcdb7dbdf4f515ef03", func := "canopy/canopylaw5.ExprNest", spec := "exprNest", inPlace := ["internal/bytealg.IndexByteString", "internal/abi.NoEscape", "internal/bytealg.MakeNoZero"], recurses := true, plainKeys := false, apart := false, narrowed := true }
def ExprNestUptoSaid : Prop := exprNestUptoRow.holds Try.pinned (OpenSpec.upto exprNestSpec)

/-- 'canopylaw5.ExprOwn', WHERE WHAT IT READS IS OF BULK AT MOST 1048576: true; the input reads as it did. -/
def exprOwnUptoRow : OpenClaim := { program := "ytodbnnfiadcbaaa", sum := "2b951e8f70b29d015b73af7653848c98c308d497ae9e18fcdb7dbdf4f515ef03", func := "canopy/canopylaw5.ExprOwn", spec := "exprOwn", inPlace := ["internal/bytealg.IndexByteString", "internal/abi.NoEscape", "internal/bytealg.MakeNoZero"], recurses := true, plainKeys := false, apart := false, narrowed := true }
def ExprOwnUptoSaid : Prop := exprOwnUptoRow.holds Try.pinned (OpenSpec.upto exprOwnSpec)

end Rows
end Go.Proofs.Ytodbnnfiadcbaaa
