/-
  NARROWER THAN 'FOR EVERY INPUT', by the rows' own cells (each row's printed sentence says how): RunesQuotes: laid · RunesBack: laid · RunesReads: laid · RunesPuts: laid · RunesParts: laid.
  DERIVED. THE GIVEN ROWS OF THIS SEAT. 5 by the template 'for every input the law returns true; each argument reads behind the call as it read before'; 0 by the template 'total and deterministic' (their statements: YtbdgheiilmmcnaaDoorTotals.lean).
  GIVEN WITH THE SEED: the statements are not yours to turn. If you find one false, say at which input.
  Laid BY PROGRAM, IN A SANDBOX (cutbox-rows.mjs): the forced cells as the released guide's own fill.sh prints them over the translation a051af6e18fb2e0c… (all of the seat's roots in one cut). By AI agents, Wed Nov 11 2026. No macro, syntax, notation, axiom, sorry.
-/
import Derived.Test.YtbdgheiilmmcnaaDoorChecked
import GoSem.PinnedTables
import GoSem.Claim
import GoSem.ClaimJoined
import GoSem.ClaimMapViews
import Derived.JoinedTies
import Derived.KernelRfl
namespace Go.Proofs.YtbdgheiilmmcnaaDoor
/- THE CELL 'sum', in the pinned program and in every row, IS THE sha256 OF THE DUMP (.gsa) THAT YtbdgheiilmmcnaaDoorProg.lean LOADS. Nothing in Lean hashes anything: it is a label: what it is worth is what the hold of that sum in a sandbox is worth. -/
noncomputable def Tryd.pinned : Pinned := { name := "ytbdgheiilmmcnaadoor", sum := "a051af6e18fb2e0caba53fcb1cf9f390e2de9e5c5a27d56991fffe4047c66e27", checked := Tryd.checked }
namespace Rows
def none {H : Type} : Left H := { results := [], args := [] }

/- WHAT THE LISTED PACKAGE-LEVEL VARIABLES READ AS WHEN THE CALL BEGINS. Each datum BY PROGRAM (the guide's laid-datum.mjs) off the statement by which the dump's own 'gosem.cut.vars' lays the variable. In a bare row this is a premise. The card (YtbdgheiilmmcnaaDoorCards.lean) ties it to the program's text. -/
def laid_unicode_utf8_acceptRanges {H : Type} : DataW H := .agg [.agg [.lit (.int .u8 128), .lit (.int .u8 191)], .agg [.lit (.int .u8 160), .lit (.int .u8 191)], .agg [.lit (.int .u8 128), .lit (.int .u8 159)], .agg [.lit (.int .u8 144), .lit (.int .u8 191)], .agg [.lit (.int .u8 128), .lit (.int .u8 143)], .agg [.lit (.int .u8 0), .lit (.int .u8 0)], .agg [.lit (.int .u8 0), .lit (.int .u8 0)], .agg [.lit (.int .u8 0), .lit (.int .u8 0)], .agg [.lit (.int .u8 0), .lit (.int .u8 0)], .agg [.lit (.int .u8 0), .lit (.int .u8 0)], .agg [.lit (.int .u8 0), .lit (.int .u8 0)], .agg [.lit (.int .u8 0), .lit (.int .u8 0)], .agg [.lit (.int .u8 0), .lit (.int .u8 0)], .agg [.lit (.int .u8 0), .lit (.int .u8 0)], .agg [.lit (.int .u8 0), .lit (.int .u8 0)], .agg [.lit (.int .u8 0), .lit (.int .u8 0)]]
/-- One of Go's own tables, pinned by name: the form's constant. -/
def laid_unicode_utf8_first : DataW Unit := Go.Pinned.utf8First

/-- 'whetstonelaw03.RunesQuotes': WHATEVER THE INPUT: true; the input reads as it did. -/
def runesQuotesSpec : ChangeSpec := { name := "runesQuotes", fn := fun _ => fun
  | [d1, d2] => { results := [.lit (.bool true)], args := [d1, d2] }
  | _ => none }
def runesQuotesRow : OpenClaim := { program := "ytbdgheiilmmcnaadoor", sum := "a051af6e18fb2e0caba53fcb1cf9f390e2de9e5c5a27d56991fffe4047c66e27", func := "whetstone/whetstonelaw03.RunesQuotes", spec := "runesQuotes", inPlace := ["internal/abi.NoEscape", "internal/bytealg.IndexByteString"], named := ["unicode/utf8.first", "unicode/utf8.acceptRanges"], apart := false, laid := [("unicode/utf8.acceptRanges", laid_unicode_utf8_acceptRanges), ("unicode/utf8.first", laid_unicode_utf8_first)] }
def RunesQuotesSaid : Prop := runesQuotesRow.holds Tryd.pinned (OpenSpec.ofChange runesQuotesSpec)

/-- ITS FALSE NEIGHBOUR: 'it returns false'. Refute it at one input. -/
def runesQuotesWrong : ChangeSpec := { name := "runesQuotes", fn := fun _ => fun
  | [d1, d2] => { results := [.lit (.bool false)], args := [d1, d2] }
  | _ => none }
def RunesQuotesWrongFalsely : Prop := runesQuotesRow.holds Tryd.pinned (OpenSpec.ofChange runesQuotesWrong)

/-- 'whetstonelaw03.RunesBack': WHATEVER THE INPUT: true; the input reads as it did. -/
def runesBackSpec : ChangeSpec := { name := "runesBack", fn := fun _ => fun
  | [d1, d2] => { results := [.lit (.bool true)], args := [d1, d2] }
  | _ => none }
def runesBackRow : OpenClaim := { program := "ytbdgheiilmmcnaadoor", sum := "a051af6e18fb2e0caba53fcb1cf9f390e2de9e5c5a27d56991fffe4047c66e27", func := "whetstone/whetstonelaw03.RunesBack", spec := "runesBack", inPlace := ["internal/abi.NoEscape", "internal/bytealg.IndexByteString"], named := ["unicode/utf8.first", "unicode/utf8.acceptRanges"], apart := false, laid := [("unicode/utf8.acceptRanges", laid_unicode_utf8_acceptRanges), ("unicode/utf8.first", laid_unicode_utf8_first)] }
def RunesBackSaid : Prop := runesBackRow.holds Tryd.pinned (OpenSpec.ofChange runesBackSpec)

/-- ITS FALSE NEIGHBOUR: 'it returns false'. Refute it at one input. -/
def runesBackWrong : ChangeSpec := { name := "runesBack", fn := fun _ => fun
  | [d1, d2] => { results := [.lit (.bool false)], args := [d1, d2] }
  | _ => none }
def RunesBackWrongFalsely : Prop := runesBackRow.holds Tryd.pinned (OpenSpec.ofChange runesBackWrong)

/-- 'whetstonelaw03.RunesReads': WHATEVER THE INPUT: true; the input reads as it did. -/
def runesReadsSpec : ChangeSpec := { name := "runesReads", fn := fun _ => fun
  | [d1, d2] => { results := [.lit (.bool true)], args := [d1, d2] }
  | _ => none }
def runesReadsRow : OpenClaim := { program := "ytbdgheiilmmcnaadoor", sum := "a051af6e18fb2e0caba53fcb1cf9f390e2de9e5c5a27d56991fffe4047c66e27", func := "whetstone/whetstonelaw03.RunesReads", spec := "runesReads", inPlace := ["internal/abi.NoEscape", "internal/bytealg.IndexByteString"], named := ["unicode/utf8.first", "unicode/utf8.acceptRanges"], apart := false, laid := [("unicode/utf8.acceptRanges", laid_unicode_utf8_acceptRanges), ("unicode/utf8.first", laid_unicode_utf8_first)] }
def RunesReadsSaid : Prop := runesReadsRow.holds Tryd.pinned (OpenSpec.ofChange runesReadsSpec)

/-- ITS FALSE NEIGHBOUR: 'it returns false'. Refute it at one input. -/
def runesReadsWrong : ChangeSpec := { name := "runesReads", fn := fun _ => fun
  | [d1, d2] => { results := [.lit (.bool false)], args := [d1, d2] }
  | _ => none }
def RunesReadsWrongFalsely : Prop := runesReadsRow.holds Tryd.pinned (OpenSpec.ofChange runesReadsWrong)

/-- 'whetstonelaw03.RunesPuts': WHATEVER THE INPUT: true; the input reads as it did. -/
def runesPutsSpec : ChangeSpec := { name := "runesPuts", fn := fun _ => fun
  | [d1, d2] => { results := [.lit (.bool true)], args := [d1, d2] }
  | _ => none }
def runesPutsRow : OpenClaim := { program := "ytbdgheiilmmcnaadoor", sum := "a051af6e18fb2e0caba53fcb1cf9f390e2de9e5c5a27d56991fffe4047c66e27", func := "whetstone/whetstonelaw03.RunesPuts", spec := "runesPuts", inPlace := ["internal/abi.NoEscape", "internal/bytealg.IndexByteString"], named := ["unicode/utf8.first", "unicode/utf8.acceptRanges"], apart := false, laid := [("unicode/utf8.acceptRanges", laid_unicode_utf8_acceptRanges), ("unicode/utf8.first", laid_unicode_utf8_first)] }
def RunesPutsSaid : Prop := runesPutsRow.holds Tryd.pinned (OpenSpec.ofChange runesPutsSpec)

/-- ITS FALSE NEIGHBOUR: 'it returns false'. Refute it at one input. -/
def runesPutsWrong : ChangeSpec := { name := "runesPuts", fn := fun _ => fun
  | [d1, d2] => { results := [.lit (.bool false)], args := [d1, d2] }
  | _ => none }
def RunesPutsWrongFalsely : Prop := runesPutsRow.holds Tryd.pinned (OpenSpec.ofChange runesPutsWrong)

/-- 'whetstonelaw03.RunesParts': WHATEVER THE INPUT: true; the input reads as it did. -/
def runesPartsSpec : ChangeSpec := { name := "runesParts", fn := fun _ => fun
  | [d1, d2, d3] => { results := [.lit (.bool true)], args := [d1, d2, d3] }
  | _ => none }
def runesPartsRow : OpenClaim := { program := "ytbdgheiilmmcnaadoor", sum := "a051af6e18fb2e0caba53fcb1cf9f390e2de9e5c5a27d56991fffe4047c66e27", func := "whetstone/whetstonelaw03.RunesParts", spec := "runesParts", inPlace := ["internal/abi.NoEscape", "internal/bytealg.IndexByteString"], named := ["unicode/utf8.first", "unicode/utf8.acceptRanges"], apart := false, laid := [("unicode/utf8.acceptRanges", laid_unicode_utf8_acceptRanges), ("unicode/utf8.first", laid_unicode_utf8_first)] }
def RunesPartsSaid : Prop := runesPartsRow.holds Tryd.pinned (OpenSpec.ofChange runesPartsSpec)

/-- ITS FALSE NEIGHBOUR: 'it returns false'. Refute it at one input. -/
def runesPartsWrong : ChangeSpec := { name := "runesParts", fn := fun _ => fun
  | [d1, d2, d3] => { results := [.lit (.bool false)], args := [d1, d2, d3] }
  | _ => none }
def RunesPartsWrongFalsely : Prop := runesPartsRow.holds Tryd.pinned (OpenSpec.ofChange runesPartsWrong)

/- THE SECOND FORM. 'bulk': how many values and letters a reading holds, each counted each time it is reached (what is shared counts as often as it is met; a slice's spare places count too). A statement '..UptoSaid' is the law's where the arguments, and the package variables that the reading takes, are together of bulk at most 1048576: NARROWER than '..Said'. Prove '..Said' where nothing that the law and all that it calls make is longer than what came in: it says more and counts as full. Else prove '..UptoSaid'. A law counts once. -/
mutual
def uptoBulk {H : Type} : DataW H → Nat
  | .lit (.string bytes) => bytes.length + 1
  | .lit _ => 1
  | .nil => 1
  | .ptr d => uptoBulk d + 1
  | .slice elems spare => uptoBulkAll elems + uptoBulkAll spare + 1
  | .agg parts => uptoBulkAll parts + 1
  | .iface _ d => uptoBulk d + 1
  | .map entries => uptoBulkEntries entries + 1
  | .held _ => 1
def uptoBulkAll {H : Type} : List (DataW H) → Nat
  | [] => 0
  | d :: r => uptoBulk d + uptoBulkAll r
def uptoBulkEntries {H : Type} : List (Lit × DataW H) → Nat
  | [] => 0
  | x :: r => uptoBulkEntry x + uptoBulkEntries r
def uptoBulkEntry {H : Type} : Lit × DataW H → Nat
  | (.string bytes, d) => bytes.length + uptoBulk d + 1
  | (_, d) => uptoBulk d + 1
 end
def uptoSmall : (H : Type) → List (DataW H) → Bool := fun _ ds => decide (uptoBulkAll ds ≤ 1048576)
def OpenSpec.upto (s : _root_.Go.ChangeSpec) : _root_.Go.OpenSpec := { _root_.Go.OpenSpec.ofChange s with cond := some uptoSmall }

/-- 'whetstonelaw03.RunesQuotes', WHERE WHAT IT READS IS OF BULK AT MOST 1048576: true; the input reads as it did. -/
def runesQuotesUptoRow : OpenClaim := { program := "ytbdgheiilmmcnaadoor", sum := "a051af6e18fb2e0caba53fcb1cf9f390e2de9e5c5a27d56991fffe4047c66e27", func := "whetstone/whetstonelaw03.RunesQuotes", spec := "runesQuotes", inPlace := ["internal/abi.NoEscape", "internal/bytealg.IndexByteString"], named := ["unicode/utf8.first", "unicode/utf8.acceptRanges"], apart := false, laid := [("unicode/utf8.acceptRanges", laid_unicode_utf8_acceptRanges), ("unicode/utf8.first", laid_unicode_utf8_first)], narrowed := true }
def RunesQuotesUptoSaid : Prop := runesQuotesUptoRow.holds Tryd.pinned (OpenSpec.upto runesQuotesSpec)

/-- 'whetstonelaw03.RunesBack', WHERE WHAT IT READS IS OF BULK AT MOST 1048576: true; the input reads as it did. -/
def runesBackUptoRow : OpenClaim := { program := "ytbdgheiilmmcnaadoor", sum := "a051af6e18fb2e0caba53fcb1cf9f390e2de9e5c5a27d56991fffe4047c66e27", func := "whetstone/whetstonelaw03.RunesBack", spec := "runesBack", inPlace := ["internal/abi.NoEscape", "internal/bytealg.IndexByteString"], named := ["unicode/utf8.first", "unicode/utf8.acceptRanges"], apart := false, laid := [("unicode/utf8.acceptRanges", laid_unicode_utf8_acceptRanges), ("unicode/utf8.first", laid_unicode_utf8_first)], narrowed := true }
def RunesBackUptoSaid : Prop := runesBackUptoRow.holds Tryd.pinned (OpenSpec.upto runesBackSpec)

/-- 'whetstonelaw03.RunesReads', WHERE WHAT IT READS IS OF BULK AT MOST 1048576: true; the input reads as it did. -/
def runesReadsUptoRow : OpenClaim := { program := "ytbdgheiilmmcnaadoor", sum := "a051af6e18fb2e0caba53fcb1cf9f390e2de9e5c5a27d56991fffe4047c66e27", func := "whetstone/whetstonelaw03.RunesReads", spec := "runesReads", inPlace := ["internal/abi.NoEscape", "internal/bytealg.IndexByteString"], named := ["unicode/utf8.first", "unicode/utf8.acceptRanges"], apart := false, laid := [("unicode/utf8.acceptRanges", laid_unicode_utf8_acceptRanges), ("unicode/utf8.first", laid_unicode_utf8_first)], narrowed := true }
def RunesReadsUptoSaid : Prop := runesReadsUptoRow.holds Tryd.pinned (OpenSpec.upto runesReadsSpec)

/-- 'whetstonelaw03.RunesPuts', WHERE WHAT IT READS IS OF BULK AT MOST 1048576: true; the input reads as it did. -/
def runesPutsUptoRow : OpenClaim := { program := "ytbdgheiilmmcnaadoor", sum := "a051af6e18fb2e0caba53fcb1cf9f390e2de9e5c5a27d56991fffe4047c66e27", func := "whetstone/whetstonelaw03.RunesPuts", spec := "runesPuts", inPlace := ["internal/abi.NoEscape", "internal/bytealg.IndexByteString"], named := ["unicode/utf8.first", "unicode/utf8.acceptRanges"], apart := false, laid := [("unicode/utf8.acceptRanges", laid_unicode_utf8_acceptRanges), ("unicode/utf8.first", laid_unicode_utf8_first)], narrowed := true }
def RunesPutsUptoSaid : Prop := runesPutsUptoRow.holds Tryd.pinned (OpenSpec.upto runesPutsSpec)

/-- 'whetstonelaw03.RunesParts', WHERE WHAT IT READS IS OF BULK AT MOST 1048576: true; the input reads as it did. -/
def runesPartsUptoRow : OpenClaim := { program := "ytbdgheiilmmcnaadoor", sum := "a051af6e18fb2e0caba53fcb1cf9f390e2de9e5c5a27d56991fffe4047c66e27", func := "whetstone/whetstonelaw03.RunesParts", spec := "runesParts", inPlace := ["internal/abi.NoEscape", "internal/bytealg.IndexByteString"], named := ["unicode/utf8.first", "unicode/utf8.acceptRanges"], apart := false, laid := [("unicode/utf8.acceptRanges", laid_unicode_utf8_acceptRanges), ("unicode/utf8.first", laid_unicode_utf8_first)], narrowed := true }
def RunesPartsUptoSaid : Prop := runesPartsUptoRow.holds Tryd.pinned (OpenSpec.upto runesPartsSpec)

end Rows
end Go.Proofs.YtbdgheiilmmcnaaDoor
