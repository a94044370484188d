/-
  No cell of these rows narrows 'for every input' (looked for: loops, veiled, ifaces, maps, wideKeys, modest, calm, conditions, laid).
  DERIVED. THE GIVEN ROWS OF THIS SEAT. 10 by the template 'for every input the law returns true; each argument reads behind the call as it read before'; 0 by the template 'total and deterministic' (their statements: YtiibfkjfanglbaaTotals.lean).
  GIVEN WITH THE SEED: the statements are not yours to turn. If you find one false, say at which input.
  Laid BY PROGRAM, IN A SANDBOX (cutbox-rows.mjs): the forced cells as the released guide's own fill.sh prints them over the translation 66ec2f0370a16b7f… (all of the seat's roots in one cut). By AI agents, Wed Nov 11 2026. No macro, syntax, notation, axiom, sorry.
-/
import Derived.Test.YtiibfkjfanglbaaChecked
import GoSem.Claim
import GoSem.ClaimJoined
import GoSem.ClaimMapViews
import Derived.JoinedTies
import Derived.KernelRfl
namespace Go.Proofs.Ytiibfkjfanglbaa
/- THE CELL 'sum', in the pinned program and in every row, IS THE sha256 OF THE DUMP (.gsa) THAT YtiibfkjfanglbaaProg.lean LOADS. Nothing in Lean hashes anything: it is a label: what it is worth is what the hold of that sum in a sandbox is worth. -/
noncomputable def Try.pinned : Pinned := { name := "ytiibfkjfanglbaa", sum := "66ec2f0370a16b7f54ee97408049991605a04a5c933f45dfc5f62894a1ddfe63", checked := Try.checked }
namespace Rows
def none {H : Type} : Left H := { results := [], args := [] }

/-- 'canopylaw1.WordBack': WHATEVER THE INPUT: true; the input reads as it did. -/
def wordBackSpec : ChangeSpec := { name := "wordBack", fn := fun _ => fun
  | [d1, d2, d3] => { results := [.lit (.bool true)], args := [d1, d2, d3] }
  | _ => none }
def wordBackRow : OpenClaim := { program := "ytiibfkjfanglbaa", sum := "66ec2f0370a16b7f54ee97408049991605a04a5c933f45dfc5f62894a1ddfe63", func := "canopy/canopylaw1.WordBack", spec := "wordBack", inPlace := ["internal/abi.NoEscape", "internal/bytealg.MakeNoZero"], apart := false }
def WordBackSaid : Prop := wordBackRow.holds Try.pinned (OpenSpec.ofChange wordBackSpec)

/-- ITS FALSE NEIGHBOUR: 'it returns false'. Refute it at one input. -/
def wordBackWrong : ChangeSpec := { name := "wordBack", fn := fun _ => fun
  | [d1, d2, d3] => { results := [.lit (.bool false)], args := [d1, d2, d3] }
  | _ => none }
def WordBackWrongFalsely : Prop := wordBackRow.holds Try.pinned (OpenSpec.ofChange wordBackWrong)

/-- 'canopylaw1.WordReads': WHATEVER THE INPUT: true; the input reads as it did. -/
def wordReadsSpec : ChangeSpec := { name := "wordReads", fn := fun _ => fun
  | [d1, d2, d3, d4, d5, d6, d7] => { results := [.lit (.bool true)], args := [d1, d2, d3, d4, d5, d6, d7] }
  | _ => none }
def wordReadsRow : OpenClaim := { program := "ytiibfkjfanglbaa", sum := "66ec2f0370a16b7f54ee97408049991605a04a5c933f45dfc5f62894a1ddfe63", func := "canopy/canopylaw1.WordReads", spec := "wordReads", inPlace := ["internal/abi.NoEscape", "internal/bytealg.MakeNoZero"], apart := false }
def WordReadsSaid : Prop := wordReadsRow.holds Try.pinned (OpenSpec.ofChange wordReadsSpec)

/-- ITS FALSE NEIGHBOUR: 'it returns false'. Refute it at one input. -/
def wordReadsWrong : ChangeSpec := { name := "wordReads", fn := fun _ => fun
  | [d1, d2, d3, d4, d5, d6, d7] => { results := [.lit (.bool false)], args := [d1, d2, d3, d4, d5, d6, d7] }
  | _ => none }
def WordReadsWrongFalsely : Prop := wordReadsRow.holds Try.pinned (OpenSpec.ofChange wordReadsWrong)

/-- 'canopylaw1.WordChecks': WHATEVER THE INPUT: true; the input reads as it did. -/
def wordChecksSpec : ChangeSpec := { name := "wordChecks", fn := fun _ => fun
  | [d1, d2, d3, d4, d5, d6] => { results := [.lit (.bool true)], args := [d1, d2, d3, d4, d5, d6] }
  | _ => none }
def wordChecksRow : OpenClaim := { program := "ytiibfkjfanglbaa", sum := "66ec2f0370a16b7f54ee97408049991605a04a5c933f45dfc5f62894a1ddfe63", func := "canopy/canopylaw1.WordChecks", spec := "wordChecks", inPlace := ["internal/abi.NoEscape", "internal/bytealg.MakeNoZero"], apart := false }
def WordChecksSaid : Prop := wordChecksRow.holds Try.pinned (OpenSpec.ofChange wordChecksSpec)

/-- ITS FALSE NEIGHBOUR: 'it returns false'. Refute it at one input. -/
def wordChecksWrong : ChangeSpec := { name := "wordChecks", fn := fun _ => fun
  | [d1, d2, d3, d4, d5, d6] => { results := [.lit (.bool false)], args := [d1, d2, d3, d4, d5, d6] }
  | _ => none }
def WordChecksWrongFalsely : Prop := wordChecksRow.holds Try.pinned (OpenSpec.ofChange wordChecksWrong)

/-- 'canopylaw1.WordMatches': WHATEVER THE INPUT: true; the input reads as it did. -/
def wordMatchesSpec : ChangeSpec := { name := "wordMatches", fn := fun _ => fun
  | [d1, d2] => { results := [.lit (.bool true)], args := [d1, d2] }
  | _ => none }
def wordMatchesRow : OpenClaim := { program := "ytiibfkjfanglbaa", sum := "66ec2f0370a16b7f54ee97408049991605a04a5c933f45dfc5f62894a1ddfe63", func := "canopy/canopylaw1.WordMatches", spec := "wordMatches", inPlace := ["internal/abi.NoEscape", "internal/bytealg.MakeNoZero"], apart := false }
def WordMatchesSaid : Prop := wordMatchesRow.holds Try.pinned (OpenSpec.ofChange wordMatchesSpec)

/-- ITS FALSE NEIGHBOUR: 'it returns false'. Refute it at one input. -/
def wordMatchesWrong : ChangeSpec := { name := "wordMatches", fn := fun _ => fun
  | [d1, d2] => { results := [.lit (.bool false)], args := [d1, d2] }
  | _ => none }
def WordMatchesWrongFalsely : Prop := wordMatchesRow.holds Try.pinned (OpenSpec.ofChange wordMatchesWrong)

/-- 'canopylaw1.WordPartners': WHATEVER THE INPUT: true; the input reads as it did. -/
def wordPartnersSpec : ChangeSpec := { name := "wordPartners", fn := fun _ => fun
  | [d1, d2] => { results := [.lit (.bool true)], args := [d1, d2] }
  | _ => none }
def wordPartnersRow : OpenClaim := { program := "ytiibfkjfanglbaa", sum := "66ec2f0370a16b7f54ee97408049991605a04a5c933f45dfc5f62894a1ddfe63", func := "canopy/canopylaw1.WordPartners", spec := "wordPartners", inPlace := ["internal/abi.NoEscape", "internal/bytealg.MakeNoZero"], apart := false }
def WordPartnersSaid : Prop := wordPartnersRow.holds Try.pinned (OpenSpec.ofChange wordPartnersSpec)

/-- ITS FALSE NEIGHBOUR: 'it returns false'. Refute it at one input. -/
def wordPartnersWrong : ChangeSpec := { name := "wordPartners", fn := fun _ => fun
  | [d1, d2] => { results := [.lit (.bool false)], args := [d1, d2] }
  | _ => none }
def WordPartnersWrongFalsely : Prop := wordPartnersRow.holds Try.pinned (OpenSpec.ofChange wordPartnersWrong)

/-- 'canopylaw1.WordKnown': WHATEVER THE INPUT: true; the input reads as it did. -/
def wordKnownSpec : ChangeSpec := { name := "wordKnown", fn := fun _ => fun
  | [d] => { results := [.lit (.bool true)], args := [d] }
  | _ => none }
def wordKnownRow : OpenClaim := { program := "ytiibfkjfanglbaa", sum := "66ec2f0370a16b7f54ee97408049991605a04a5c933f45dfc5f62894a1ddfe63", func := "canopy/canopylaw1.WordKnown", spec := "wordKnown", inPlace := ["internal/abi.NoEscape", "internal/bytealg.MakeNoZero"], apart := false }
def WordKnownSaid : Prop := wordKnownRow.holds Try.pinned (OpenSpec.ofChange wordKnownSpec)

/-- ITS FALSE NEIGHBOUR: 'it returns false'. Refute it at one input. -/
def wordKnownWrong : ChangeSpec := { name := "wordKnown", fn := fun _ => fun
  | [d] => { results := [.lit (.bool false)], args := [d] }
  | _ => none }
def WordKnownWrongFalsely : Prop := wordKnownRow.holds Try.pinned (OpenSpec.ofChange wordKnownWrong)

/-- 'canopylaw1.WordLong': WHATEVER THE INPUT: true; the input reads as it did. -/
def wordLongSpec : ChangeSpec := { name := "wordLong", fn := fun _ => fun
  | [d1, d2] => { results := [.lit (.bool true)], args := [d1, d2] }
  | _ => none }
def wordLongRow : OpenClaim := { program := "ytiibfkjfanglbaa", sum := "66ec2f0370a16b7f54ee97408049991605a04a5c933f45dfc5f62894a1ddfe63", func := "canopy/canopylaw1.WordLong", spec := "wordLong", inPlace := ["internal/abi.NoEscape", "internal/bytealg.MakeNoZero"], apart := false }
def WordLongSaid : Prop := wordLongRow.holds Try.pinned (OpenSpec.ofChange wordLongSpec)

/-- ITS FALSE NEIGHBOUR: 'it returns false'. Refute it at one input. -/
def wordLongWrong : ChangeSpec := { name := "wordLong", fn := fun _ => fun
  | [d1, d2] => { results := [.lit (.bool false)], args := [d1, d2] }
  | _ => none }
def WordLongWrongFalsely : Prop := wordLongRow.holds Try.pinned (OpenSpec.ofChange wordLongWrong)

/-- 'canopylaw1.WordParts': WHATEVER THE INPUT: true; the input reads as it did. -/
def wordPartsSpec : ChangeSpec := { name := "wordParts", fn := fun _ => fun
  | [d1, d2, d3, d4] => { results := [.lit (.bool true)], args := [d1, d2, d3, d4] }
  | _ => none }
def wordPartsRow : OpenClaim := { program := "ytiibfkjfanglbaa", sum := "66ec2f0370a16b7f54ee97408049991605a04a5c933f45dfc5f62894a1ddfe63", func := "canopy/canopylaw1.WordParts", spec := "wordParts", inPlace := ["internal/abi.NoEscape", "internal/bytealg.MakeNoZero"], apart := false }
def WordPartsSaid : Prop := wordPartsRow.holds Try.pinned (OpenSpec.ofChange wordPartsSpec)

/-- ITS FALSE NEIGHBOUR: 'it returns false'. Refute it at one input. -/
def wordPartsWrong : ChangeSpec := { name := "wordParts", fn := fun _ => fun
  | [d1, d2, d3, d4] => { results := [.lit (.bool false)], args := [d1, d2, d3, d4] }
  | _ => none }
def WordPartsWrongFalsely : Prop := wordPartsRow.holds Try.pinned (OpenSpec.ofChange wordPartsWrong)

/-- 'canopylaw1.WordDeep': WHATEVER THE INPUT: true; the input reads as it did. -/
def wordDeepSpec : ChangeSpec := { name := "wordDeep", fn := fun _ => fun
  | [d1, d2, d3] => { results := [.lit (.bool true)], args := [d1, d2, d3] }
  | _ => none }
def wordDeepRow : OpenClaim := { program := "ytiibfkjfanglbaa", sum := "66ec2f0370a16b7f54ee97408049991605a04a5c933f45dfc5f62894a1ddfe63", func := "canopy/canopylaw1.WordDeep", spec := "wordDeep", inPlace := ["internal/abi.NoEscape", "internal/bytealg.MakeNoZero"], apart := false }
def WordDeepSaid : Prop := wordDeepRow.holds Try.pinned (OpenSpec.ofChange wordDeepSpec)

/-- ITS FALSE NEIGHBOUR: 'it returns false'. Refute it at one input. -/
def wordDeepWrong : ChangeSpec := { name := "wordDeep", fn := fun _ => fun
  | [d1, d2, d3] => { results := [.lit (.bool false)], args := [d1, d2, d3] }
  | _ => none }
def WordDeepWrongFalsely : Prop := wordDeepRow.holds Try.pinned (OpenSpec.ofChange wordDeepWrong)

/-- 'canopylaw1.WordOwn': WHATEVER THE INPUT: true; the input reads as it did. -/
def wordOwnSpec : ChangeSpec := { name := "wordOwn", fn := fun _ => fun
  | [d1, d2] => { results := [.lit (.bool true)], args := [d1, d2] }
  | _ => none }
def wordOwnRow : OpenClaim := { program := "ytiibfkjfanglbaa", sum := "66ec2f0370a16b7f54ee97408049991605a04a5c933f45dfc5f62894a1ddfe63", func := "canopy/canopylaw1.WordOwn", spec := "wordOwn", inPlace := ["internal/abi.NoEscape", "internal/bytealg.MakeNoZero"], apart := false }
def WordOwnSaid : Prop := wordOwnRow.holds Try.pinned (OpenSpec.ofChange wordOwnSpec)

/-- ITS FALSE NEIGHBOUR: 'it returns false'. Refute it at one input. -/
def wordOwnWrong : ChangeSpec := { name := "wordOwn", fn := fun _ => fun
  | [d1, d2] => { results := [.lit (.bool false)], args := [d1, d2] }
  | _ => none }
def WordOwnWrongFalsely : Prop := wordOwnRow.holds Try.pinned (OpenSpec.ofChange wordOwnWrong)

/- THE SECOND FORM. 'bulk': how many values and letters a reading holds, each counted each time it is reached (what is shared counts as often as it is met; a slice's spare places count too). A statement '..UptoSaid' is the law's where the arguments, and the package variables that the reading takes, are together of bulk at most 1048576: NARROWER than '..Said'. Prove '..Said' where nothing that the law and all that it calls make is longer than what came in: it says more and counts as full. Else prove '..UptoSaid'. A law counts once. -/
mutual
def uptoBulk {H : Type} : DataW H → Nat
  | .lit (.string bytes) => bytes.length + 1
  | .lit _ => 1
  | .nil => 1
  | .ptr d => uptoBulk d + 1
  | .slice elems spare => uptoBulkAll elems + uptoBulkAll spare + 1
  | .agg parts => uptoBulkAll parts + 1
  | .iface _ d => uptoBulk d + 1
  | .map entries => uptoBulkEntries entries + 1
  | .held _ => 1
def uptoBulkAll {H : Type} : List (DataW H) → Nat
  | [] => 0
  | d :: r => uptoBulk d + uptoBulkAll r
def uptoBulkEntries {H : Type} : List (Lit × DataW H) → Nat
  | [] => 0
  | x :: r => uptoBulkEntry x + uptoBulkEntries r
def uptoBulkEntry {H : Type} : Lit × DataW H → Nat
  | (.string bytes, d) => bytes.length + uptoBulk d + 1
  | (_, d) => uptoBulk d + 1
 end
def uptoSmall : (H : Type) → List (DataW H) → Bool := fun _ ds => decide (uptoBulkAll ds ≤ 1048576)
def OpenSpec.upto (s : _root_.Go.ChangeSpec) : _root_.Go.OpenSpec := { _root_.Go.OpenSpec.ofChange s with cond := some uptoSmall }

/-- 'canopylaw1.WordBack', WHERE WHAT IT READS IS OF BULK AT MOST 1048576: true; the input reads as it did. -/
def wordBackUptoRow : OpenClaim := { program := "ytiibfkjfanglbaa", sum := "66ec2f0370a16b7f54ee97408049991605a04a5c933f45dfc5f62894a1ddfe63", func := "canopy/canopylaw1.WordBack", spec := "wordBack", inPlace := ["internal/abi.NoEscape", "internal/bytealg.MakeNoZero"], apart := false, narrowed := true }
def WordBackUptoSaid : Prop := wordBackUptoRow.holds Try.pinned (OpenSpec.upto wordBackSpec)

/-- 'canopylaw1.WordReads', WHERE WHAT IT READS IS OF BULK AT MOST 1048576: true; the input reads as it did. -/
def wordReadsUptoRow : OpenClaim := { program := "ytiibfkjfanglbaa", sum := "66ec2f0370a16b7f54ee97408049991605a04a5c933f45dfc5f62894a1ddfe63", func := "canopy/canopylaw1.WordReads", spec := "wordReads", inPlace := ["internal/abi.NoEscape", "internal/bytealg.MakeNoZero"], apart := false, narrowed := true }
def WordReadsUptoSaid : Prop := wordReadsUptoRow.holds Try.pinned (OpenSpec.upto wordReadsSpec)

/-- 'canopylaw1.WordChecks', WHERE WHAT IT READS IS OF BULK AT MOST 1048576: true; the input reads as it did. -/
def wordChecksUptoRow : OpenClaim := { program := "ytiibfkjfanglbaa", sum := "66ec2f0370a16b7f54ee97408049991605a04a5c933f45dfc5f62894a1ddfe63", func := "canopy/canopylaw1.WordChecks", spec := "wordChecks", inPlace := ["internal/abi.NoEscape", "internal/bytealg.MakeNoZero"], apart := false, narrowed := true }
def WordChecksUptoSaid : Prop := wordChecksUptoRow.holds Try.pinned (OpenSpec.upto wordChecksSpec)

/-- 'canopylaw1.WordMatches', WHERE WHAT IT READS IS OF BULK AT MOST 1048576: true; the input reads as it did. -/
def wordMatchesUptoRow : OpenClaim := { program := "ytiibfkjfanglbaa", sum := "66ec2f0370a16b7f54ee97408049991605a04a5c933f45dfc5f62894a1ddfe63", func := "canopy/canopylaw1.WordMatches", spec := "wordMatches", inPlace := ["internal/abi.NoEscape", "internal/bytealg.MakeNoZero"], apart := false, narrowed := true }
def WordMatchesUptoSaid : Prop := wordMatchesUptoRow.holds Try.pinned (OpenSpec.upto wordMatchesSpec)

/-- 'canopylaw1.WordPartners', WHERE WHAT IT READS IS OF BULK AT MOST 1048576: true; the input reads as it did. -/
def wordPartnersUptoRow : OpenClaim := { program := "ytiibfkjfanglbaa", sum := "66ec2f0370a16b7f54ee97408049991605a04a5c933f45dfc5f62894a1ddfe63", func := "canopy/canopylaw1.WordPartners", spec := "wordPartners", inPlace := ["internal/abi.NoEscape", "internal/bytealg.MakeNoZero"], apart := false, narrowed := true }
def WordPartnersUptoSaid : Prop := wordPartnersUptoRow.holds Try.pinned (OpenSpec.upto wordPartnersSpec)

/-- 'canopylaw1.WordKnown', WHERE WHAT IT READS IS OF BULK AT MOST 1048576: true; the input reads as it did. -/
def wordKnownUptoRow : OpenClaim := { program := "ytiibfkjfanglbaa", sum := "66ec2f0370a16b7f54ee97408049991605a04a5c933f45dfc5f62894a1ddfe63", func := "canopy/canopylaw1.WordKnown", spec := "wordKnown", inPlace := ["internal/abi.NoEscape", "internal/bytealg.MakeNoZero"], apart := false, narrowed := true }
def WordKnownUptoSaid : Prop := wordKnownUptoRow.holds Try.pinned (OpenSpec.upto wordKnownSpec)

/-- 'canopylaw1.WordLong', WHERE WHAT IT READS IS OF BULK AT MOST 1048576: true; the input reads as it did. -/
def wordLongUptoRow : OpenClaim := { program := "ytiibfkjfanglbaa", sum := "66ec2f0370a16b7f54ee97408049991605a04a5c933f45dfc5f62894a1ddfe63", func := "canopy/canopylaw1.WordLong", spec := "wordLong", inPlace := ["internal/abi.NoEscape", "internal/bytealg.MakeNoZero"], apart := false, narrowed := true }
def WordLongUptoSaid : Prop := wordLongUptoRow.holds Try.pinned (OpenSpec.upto wordLongSpec)

/-- 'canopylaw1.WordParts', WHERE WHAT IT READS IS OF BULK AT MOST 1048576: true; the input reads as it did. -/
def wordPartsUptoRow : OpenClaim := { program := "ytiibfkjfanglbaa", sum := "66ec2f0370a16b7f54ee97408049991605a04a5c933f45dfc5f62894a1ddfe63", func := "canopy/canopylaw1.WordParts", spec := "wordParts", inPlace := ["internal/abi.NoEscape", "internal/bytealg.MakeNoZero"], apart := false, narrowed := true }
def WordPartsUptoSaid : Prop := wordPartsUptoRow.holds Try.pinned (OpenSpec.upto wordPartsSpec)

/-- 'canopylaw1.WordDeep', WHERE WHAT IT READS IS OF BULK AT MOST 1048576: true; the input reads as it did. -/
def wordDeepUptoRow : OpenClaim := { program := "ytiibfkjfanglbaa", sum := "66ec2f0370a16b7f54ee97408049991605a04a5c933f45dfc5f62894a1ddfe63", func := "canopy/canopylaw1.WordDeep", spec := "wordDeep", inPlace := ["internal/abi.NoEscape", "internal/bytealg.MakeNoZero"], apart := false, narrowed := true }
def WordDeepUptoSaid : Prop := wordDeepUptoRow.holds Try.pinned (OpenSpec.upto wordDeepSpec)

/-- 'canopylaw1.WordOwn', WHERE WHAT IT READS IS OF BULK AT MOST 1048576: true; the input reads as it did. -/
def wordOwnUptoRow : OpenClaim := { program := "ytiibfkjfanglbaa", sum := "66ec2f0370a16b7f54ee97408049991605a04a5c933f45dfc5f62894a1ddfe63", func := "canopy/canopylaw1.WordOwn", spec := "wordOwn", inPlace := ["internal/abi.NoEscape", "internal/bytealg.MakeNoZero"], apart := false, narrowed := true }
def WordOwnUptoSaid : Prop := wordOwnUptoRow.holds Try.pinned (OpenSpec.upto wordOwnSpec)

end Rows
end Go.Proofs.Ytiibfkjfanglbaa
