/-
  NARROWER THAN 'FOR EVERY INPUT', by the rows' own cells (each row's printed sentence says how): GlobsMatch: laid · GlobsBelow: laid · GlobsFixed: laid · GlobsPick: laid · GlobsSets: laid.
  DERIVED. THE GIVEN ROWS OF THIS SEAT. 5 by the template 'for every input the law returns true; each argument reads behind the call as it read before'; 0 by the template 'total and deterministic' (their statements: YtgbogkmbgedkkaaDoorTotals.lean).
  GIVEN WITH THE SEED: the statements are not yours to turn. If you find one false, say at which input.
  Laid BY PROGRAM, IN A SANDBOX (cutbox-rows.mjs): the forced cells as the released guide's own fill.sh prints them over the translation 2db440c71ea26e26… (all of the seat's roots in one cut). By AI agents, Wed Nov 11 2026. No macro, syntax, notation, axiom, sorry.
-/
import Derived.Test.YtgbogkmbgedkkaaDoorChecked
import GoSem.PinnedTables
import GoSem.Claim
import GoSem.ClaimJoined
import GoSem.ClaimMapViews
import Derived.JoinedTies
import Derived.KernelRfl
namespace Go.Proofs.YtgbogkmbgedkkaaDoor
/- THE CELL 'sum', in the pinned program and in every row, IS THE sha256 OF THE DUMP (.gsa) THAT YtgbogkmbgedkkaaDoorProg.lean LOADS. Nothing in Lean hashes anything: it is a label: what it is worth is what the hold of that sum in a sandbox is worth. -/
noncomputable def Tryd.pinned : Pinned := { name := "ytgbogkmbgedkkaadoor", sum := "2db440c71ea26e26af4b76af694e162adc96be966f075db3f52097b252890106", checked := Tryd.checked }
namespace Rows
def none {H : Type} : Left H := { results := [], args := [] }

/- WHAT THE LISTED PACKAGE-LEVEL VARIABLES READ AS WHEN THE CALL BEGINS. Each datum BY PROGRAM (the guide's laid-datum.mjs) off the statement by which the dump's own 'gosem.cut.vars' lays the variable. In a bare row this is a premise. The card (YtgbogkmbgedkkaaDoorCards.lean) ties it to the program's text. -/
def laid_unicode_utf8_acceptRanges {H : Type} : DataW H := .agg [.agg [.lit (.int .u8 128), .lit (.int .u8 191)], .agg [.lit (.int .u8 160), .lit (.int .u8 191)], .agg [.lit (.int .u8 128), .lit (.int .u8 159)], .agg [.lit (.int .u8 144), .lit (.int .u8 191)], .agg [.lit (.int .u8 128), .lit (.int .u8 143)], .agg [.lit (.int .u8 0), .lit (.int .u8 0)], .agg [.lit (.int .u8 0), .lit (.int .u8 0)], .agg [.lit (.int .u8 0), .lit (.int .u8 0)], .agg [.lit (.int .u8 0), .lit (.int .u8 0)], .agg [.lit (.int .u8 0), .lit (.int .u8 0)], .agg [.lit (.int .u8 0), .lit (.int .u8 0)], .agg [.lit (.int .u8 0), .lit (.int .u8 0)], .agg [.lit (.int .u8 0), .lit (.int .u8 0)], .agg [.lit (.int .u8 0), .lit (.int .u8 0)], .agg [.lit (.int .u8 0), .lit (.int .u8 0)], .agg [.lit (.int .u8 0), .lit (.int .u8 0)]]
/-- One of Go's own tables, pinned by name: the form's constant. -/
def laid_unicode_utf8_first : DataW Unit := Go.Pinned.utf8First

/-- 'bloomerylaw04.GlobsMatch': WHATEVER THE INPUT: true; the input reads as it did. -/
def globsMatchSpec : ChangeSpec := { name := "globsMatch", fn := fun _ => fun
  | [d1, d2] => { results := [.lit (.bool true)], args := [d1, d2] }
  | _ => none }
def globsMatchRow : OpenClaim := { program := "ytgbogkmbgedkkaadoor", sum := "2db440c71ea26e26af4b76af694e162adc96be966f075db3f52097b252890106", func := "bloomery/bloomerylaw04.GlobsMatch", spec := "globsMatch", inPlace := ["internal/bytealg.CountString", "internal/bytealg.IndexByteString", "internal/bytealg.IndexString"], unfollowed := true, recurses := true, named := ["unicode/utf8.first", "unicode/utf8.acceptRanges", "internal/bytealg.MaxLen"], plainKeys := false, apart := false, laid := [("unicode/utf8.acceptRanges", laid_unicode_utf8_acceptRanges), ("unicode/utf8.first", laid_unicode_utf8_first)] }
def GlobsMatchSaid : Prop := globsMatchRow.holds Tryd.pinned (OpenSpec.ofChange globsMatchSpec)

/-- ITS FALSE NEIGHBOUR: 'it returns false'. Refute it at one input. -/
def globsMatchWrong : ChangeSpec := { name := "globsMatch", fn := fun _ => fun
  | [d1, d2] => { results := [.lit (.bool false)], args := [d1, d2] }
  | _ => none }
def GlobsMatchWrongFalsely : Prop := globsMatchRow.holds Tryd.pinned (OpenSpec.ofChange globsMatchWrong)

/-- 'bloomerylaw04.GlobsBelow': WHATEVER THE INPUT: true; the input reads as it did. -/
def globsBelowSpec : ChangeSpec := { name := "globsBelow", fn := fun _ => fun
  | [d1, d2] => { results := [.lit (.bool true)], args := [d1, d2] }
  | _ => none }
def globsBelowRow : OpenClaim := { program := "ytgbogkmbgedkkaadoor", sum := "2db440c71ea26e26af4b76af694e162adc96be966f075db3f52097b252890106", func := "bloomery/bloomerylaw04.GlobsBelow", spec := "globsBelow", inPlace := ["internal/bytealg.CountString", "internal/bytealg.IndexByteString", "internal/bytealg.IndexString"], unfollowed := true, recurses := true, named := ["unicode/utf8.first", "unicode/utf8.acceptRanges", "internal/bytealg.MaxLen"], plainKeys := false, apart := false, laid := [("unicode/utf8.acceptRanges", laid_unicode_utf8_acceptRanges), ("unicode/utf8.first", laid_unicode_utf8_first)] }
def GlobsBelowSaid : Prop := globsBelowRow.holds Tryd.pinned (OpenSpec.ofChange globsBelowSpec)

/-- ITS FALSE NEIGHBOUR: 'it returns false'. Refute it at one input. -/
def globsBelowWrong : ChangeSpec := { name := "globsBelow", fn := fun _ => fun
  | [d1, d2] => { results := [.lit (.bool false)], args := [d1, d2] }
  | _ => none }
def GlobsBelowWrongFalsely : Prop := globsBelowRow.holds Tryd.pinned (OpenSpec.ofChange globsBelowWrong)

/-- 'bloomerylaw04.GlobsFixed': WHATEVER THE INPUT: true; the input reads as it did. -/
def globsFixedSpec : ChangeSpec := { name := "globsFixed", fn := fun _ => fun
  | [d1, d2, d3] => { results := [.lit (.bool true)], args := [d1, d2, d3] }
  | _ => none }
def globsFixedRow : OpenClaim := { program := "ytgbogkmbgedkkaadoor", sum := "2db440c71ea26e26af4b76af694e162adc96be966f075db3f52097b252890106", func := "bloomery/bloomerylaw04.GlobsFixed", spec := "globsFixed", inPlace := ["internal/bytealg.CountString", "internal/bytealg.IndexByteString", "internal/bytealg.IndexString"], unfollowed := true, recurses := true, named := ["unicode/utf8.first", "unicode/utf8.acceptRanges", "internal/bytealg.MaxLen"], plainKeys := false, apart := false, laid := [("unicode/utf8.acceptRanges", laid_unicode_utf8_acceptRanges), ("unicode/utf8.first", laid_unicode_utf8_first)] }
def GlobsFixedSaid : Prop := globsFixedRow.holds Tryd.pinned (OpenSpec.ofChange globsFixedSpec)

/-- ITS FALSE NEIGHBOUR: 'it returns false'. Refute it at one input. -/
def globsFixedWrong : ChangeSpec := { name := "globsFixed", fn := fun _ => fun
  | [d1, d2, d3] => { results := [.lit (.bool false)], args := [d1, d2, d3] }
  | _ => none }
def GlobsFixedWrongFalsely : Prop := globsFixedRow.holds Tryd.pinned (OpenSpec.ofChange globsFixedWrong)

/-- 'bloomerylaw04.GlobsPick': WHATEVER THE INPUT: true; the input reads as it did. -/
def globsPickSpec : ChangeSpec := { name := "globsPick", fn := fun _ => fun
  | [d1, d2, d3] => { results := [.lit (.bool true)], args := [d1, d2, d3] }
  | _ => none }
def globsPickRow : OpenClaim := { program := "ytgbogkmbgedkkaadoor", sum := "2db440c71ea26e26af4b76af694e162adc96be966f075db3f52097b252890106", func := "bloomery/bloomerylaw04.GlobsPick", spec := "globsPick", inPlace := ["internal/bytealg.CountString", "internal/bytealg.IndexByteString", "internal/bytealg.IndexString"], unfollowed := true, recurses := true, named := ["unicode/utf8.first", "unicode/utf8.acceptRanges", "internal/bytealg.MaxLen"], plainKeys := false, apart := false, laid := [("unicode/utf8.acceptRanges", laid_unicode_utf8_acceptRanges), ("unicode/utf8.first", laid_unicode_utf8_first)] }
def GlobsPickSaid : Prop := globsPickRow.holds Tryd.pinned (OpenSpec.ofChange globsPickSpec)

/-- ITS FALSE NEIGHBOUR: 'it returns false'. Refute it at one input. -/
def globsPickWrong : ChangeSpec := { name := "globsPick", fn := fun _ => fun
  | [d1, d2, d3] => { results := [.lit (.bool false)], args := [d1, d2, d3] }
  | _ => none }
def GlobsPickWrongFalsely : Prop := globsPickRow.holds Tryd.pinned (OpenSpec.ofChange globsPickWrong)

/-- 'bloomerylaw04.GlobsSets': WHATEVER THE INPUT: true; the input reads as it did. -/
def globsSetsSpec : ChangeSpec := { name := "globsSets", fn := fun _ => fun
  | [d1, d2] => { results := [.lit (.bool true)], args := [d1, d2] }
  | _ => none }
def globsSetsRow : OpenClaim := { program := "ytgbogkmbgedkkaadoor", sum := "2db440c71ea26e26af4b76af694e162adc96be966f075db3f52097b252890106", func := "bloomery/bloomerylaw04.GlobsSets", spec := "globsSets", inPlace := ["internal/bytealg.CountString", "internal/bytealg.IndexByteString", "internal/bytealg.IndexString"], unfollowed := true, recurses := true, named := ["unicode/utf8.first", "unicode/utf8.acceptRanges", "internal/bytealg.MaxLen"], plainKeys := false, apart := false, laid := [("unicode/utf8.acceptRanges", laid_unicode_utf8_acceptRanges), ("unicode/utf8.first", laid_unicode_utf8_first)] }
def GlobsSetsSaid : Prop := globsSetsRow.holds Tryd.pinned (OpenSpec.ofChange globsSetsSpec)

/-- ITS FALSE NEIGHBOUR: 'it returns false'. Refute it at one input. -/
def globsSetsWrong : ChangeSpec := { name := "globsSets", fn := fun _ => fun
  | [d1, d2] => { results := [.lit (.bool false)], args := [d1, d2] }
  | _ => none }
def GlobsSetsWrongFalsely : Prop := globsSetsRow.holds Tryd.pinned (OpenSpec.ofChange globsSetsWrong)

/- THE SECOND FORM. 'bulk': how many values and letters a reading holds, each counted each time it is reached (what is shared counts as often as it is met; a slice's spare places count too). A statement '..UptoSaid' is the law's where the arguments, and the package variables that the reading takes, are together of bulk at most 1048576: NARROWER than '..Said'. Prove '..Said' where nothing that the law and all that it calls make is longer than what came in: it says more and counts as full. Else prove '..UptoSaid'. A law counts once. -/
mutual
def uptoBulk {H : Type} : DataW H → Nat
  | .lit (.string bytes) => bytes.length + 1
  | .lit _ => 1
  | .nil => 1
  | .ptr d => uptoBulk d + 1
  | .slice elems spare => uptoBulkAll elems + uptoBulkAll spare + 1
  | .agg parts => uptoBulkAll parts + 1
  | .iface _ d => uptoBulk d + 1
  | .map entries => uptoBulkEntries entries + 1
  | .held _ => 1
def uptoBulkAll {H : Type} : List (DataW H) → Nat
  | [] => 0
  | d :: r => uptoBulk d + uptoBulkAll r
def uptoBulkEntries {H : Type} : List (Lit × DataW H) → Nat
  | [] => 0
  | x :: r => uptoBulkEntry x + uptoBulkEntries r
def uptoBulkEntry {H : Type} : Lit × DataW H → Nat
  | (.string bytes, d) => bytes.length + uptoBulk d + 1
  | (_, d) => uptoBulk d + 1
 end
def uptoSmall : (H : Type) → List (DataW H) → Bool := fun _ ds => decide (uptoBulkAll ds ≤ 1048576)
def OpenSpec.upto (s : _root_.Go.ChangeSpec) : _root_.Go.OpenSpec := { _root_.Go.OpenSpec.ofChange s with cond := some uptoSmall }

/-- 'bloomerylaw04.GlobsMatch', WHERE WHAT IT READS IS OF BULK AT MOST 1048576: true; the input reads as it did. -/
def globsMatchUptoRow : OpenClaim := { program := "ytgbogkmbgedkkaadoor", sum := "2db440c71ea26e26af4b76af694e162adc96be966f075db3f52097b252890106", func := "bloomery/bloomerylaw04.GlobsMatch", spec := "globsMatch", inPlace := ["internal/bytealg.CountString", "internal/bytealg.IndexByteString", "internal/bytealg.IndexString"], unfollowed := true, recurses := true, named := ["unicode/utf8.first", "unicode/utf8.acceptRanges", "internal/bytealg.MaxLen"], plainKeys := false, apart := false, laid := [("unicode/utf8.acceptRanges", laid_unicode_utf8_acceptRanges), ("unicode/utf8.first", laid_unicode_utf8_first)], narrowed := true }
def GlobsMatchUptoSaid : Prop := globsMatchUptoRow.holds Tryd.pinned (OpenSpec.upto globsMatchSpec)

/-- 'bloomerylaw04.GlobsBelow', WHERE WHAT IT READS IS OF BULK AT MOST 1048576: true; the input reads as it did. -/
def globsBelowUptoRow : OpenClaim := { program := "ytgbogkmbgedkkaadoor", sum := "2db440c71ea26e26af4b76af694e162adc96be966f075db3f52097b252890106", func := "bloomery/bloomerylaw04.GlobsBelow", spec := "globsBelow", inPlace := ["internal/bytealg.CountString", "internal/bytealg.IndexByteString", "internal/bytealg.IndexString"], unfollowed := true, recurses := true, named := ["unicode/utf8.first", "unicode/utf8.acceptRanges", "internal/bytealg.MaxLen"], plainKeys := false, apart := false, laid := [("unicode/utf8.acceptRanges", laid_unicode_utf8_acceptRanges), ("unicode/utf8.first", laid_unicode_utf8_first)], narrowed := true }
def GlobsBelowUptoSaid : Prop := globsBelowUptoRow.holds Tryd.pinned (OpenSpec.upto globsBelowSpec)

/-- 'bloomerylaw04.GlobsFixed', WHERE WHAT IT READS IS OF BULK AT MOST 1048576: true; the input reads as it did. -/
def globsFixedUptoRow : OpenClaim := { program := "ytgbogkmbgedkkaadoor", sum := "2db440c71ea26e26af4b76af694e162adc96be966f075db3f52097b252890106", func := "bloomery/bloomerylaw04.GlobsFixed", spec := "globsFixed", inPlace := ["internal/bytealg.CountString", "internal/bytealg.IndexByteString", "internal/bytealg.IndexString"], unfollowed := true, recurses := true, named := ["unicode/utf8.first", "unicode/utf8.acceptRanges", "internal/bytealg.MaxLen"], plainKeys := false, apart := false, laid := [("unicode/utf8.acceptRanges", laid_unicode_utf8_acceptRanges), ("unicode/utf8.first", laid_unicode_utf8_first)], narrowed := true }
def GlobsFixedUptoSaid : Prop := globsFixedUptoRow.holds Tryd.pinned (OpenSpec.upto globsFixedSpec)

/-- 'bloomerylaw04.GlobsPick', WHERE WHAT IT READS IS OF BULK AT MOST 1048576: true; the input reads as it did. -/
def globsPickUptoRow : OpenClaim := { program := "ytgbogkmbgedkkaadoor", sum := "2db440c71ea26e26af4b76af694e162adc96be966f075db3f52097b252890106", func := "bloomery/bloomerylaw04.GlobsPick", spec := "globsPick", inPlace := ["internal/bytealg.CountString", "internal/bytealg.IndexByteString", "internal/bytealg.IndexString"], unfollowed := true, recurses := true, named := ["unicode/utf8.first", "unicode/utf8.acceptRanges", "internal/bytealg.MaxLen"], plainKeys := false, apart := false, laid := [("unicode/utf8.acceptRanges", laid_unicode_utf8_acceptRanges), ("unicode/utf8.first", laid_unicode_utf8_first)], narrowed := true }
def GlobsPickUptoSaid : Prop := globsPickUptoRow.holds Tryd.pinned (OpenSpec.upto globsPickSpec)

/-- 'bloomerylaw04.GlobsSets', WHERE WHAT IT READS IS OF BULK AT MOST 1048576: true; the input reads as it did. -/
def globsSetsUptoRow : OpenClaim := { program := "ytgbogkmbgedkkaadoor", sum := "2db440c71ea26e26af4b76af694e162adc96be966f075db3f52097b252890106", func := "bloomery/bloomerylaw04.GlobsSets", spec := "globsSets", inPlace := ["internal/bytealg.CountString", "internal/bytealg.IndexByteString", "internal/bytealg.IndexString"], unfollowed := true, recurses := true, named := ["unicode/utf8.first", "unicode/utf8.acceptRanges", "internal/bytealg.MaxLen"], plainKeys := false, apart := false, laid := [("unicode/utf8.acceptRanges", laid_unicode_utf8_acceptRanges), ("unicode/utf8.first", laid_unicode_utf8_first)], narrowed := true }
def GlobsSetsUptoSaid : Prop := globsSetsUptoRow.holds Tryd.pinned (OpenSpec.upto globsSetsSpec)

end Rows
end Go.Proofs.YtgbogkmbgedkkaaDoor
