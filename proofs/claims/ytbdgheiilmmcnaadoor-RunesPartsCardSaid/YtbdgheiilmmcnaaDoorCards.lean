/-
  DERIVED. GIVEN WITH THE SEED: THE CARDS: each row of YtbdgheiilmmcnaaDoorRows.lean that lists a variable, with what it lists TIED to the program's text (the seventh form; the later family's looks); each row that meets fmt, with fmt's text TOLD by the authors' own Lean function (tested against real Go, not proved from fmt's source: count such statements apart). THE CARD IS WHAT COUNTS. Prove the row's statement (the work); the ties are given (YtbdgheiilmmcnaaDoorTie.lean); close each card by the builder's one call (the guide's Derived/Test/ToyasCard.lean, 'card_holds'). Laid BY PROGRAM, IN A SANDBOX (cutbox-door.mjs). By AI agents, Wed Nov 11 2026. No macro, syntax, notation, axiom, sorry.
-/
import Derived.Test.YtbdgheiilmmcnaaDoorRows
import GoSem.ClaimSeven
namespace Go.Proofs.YtbdgheiilmmcnaaDoor
namespace Rows

/-- THE TIED CARD OF 'whetstonelaw03.RunesQuotes'. -/
def runesQuotesCard : Claim7 := { stood := { row := runesQuotesRow, standIns := [], harness := (true, "b3240c1d789eef308c6d4973bb31d574ca66b98a070a135f592a99e404581c5f"), looks := false }, kinds := [], alts := [], laidByText := true, laidKinds := [.data, .pinned], laidTests := true, laidLooks := .later }
def RunesQuotesCardSaid : Prop := Claim7.holds Tryd.pinned (.plain (OpenSpec.ofChange runesQuotesSpec)) runesQuotesCard

/-- THE TIED CARD OF 'whetstonelaw03.RunesBack'. -/
def runesBackCard : Claim7 := { stood := { row := runesBackRow, standIns := [], harness := (true, "b3240c1d789eef308c6d4973bb31d574ca66b98a070a135f592a99e404581c5f"), looks := false }, kinds := [], alts := [], laidByText := true, laidKinds := [.data, .pinned], laidTests := true, laidLooks := .later }
def RunesBackCardSaid : Prop := Claim7.holds Tryd.pinned (.plain (OpenSpec.ofChange runesBackSpec)) runesBackCard

/-- THE TIED CARD OF 'whetstonelaw03.RunesReads'. -/
def runesReadsCard : Claim7 := { stood := { row := runesReadsRow, standIns := [], harness := (true, "b3240c1d789eef308c6d4973bb31d574ca66b98a070a135f592a99e404581c5f"), looks := false }, kinds := [], alts := [], laidByText := true, laidKinds := [.data, .pinned], laidTests := true, laidLooks := .later }
def RunesReadsCardSaid : Prop := Claim7.holds Tryd.pinned (.plain (OpenSpec.ofChange runesReadsSpec)) runesReadsCard

/-- THE TIED CARD OF 'whetstonelaw03.RunesPuts'. -/
def runesPutsCard : Claim7 := { stood := { row := runesPutsRow, standIns := [], harness := (true, "b3240c1d789eef308c6d4973bb31d574ca66b98a070a135f592a99e404581c5f"), looks := false }, kinds := [], alts := [], laidByText := true, laidKinds := [.data, .pinned], laidTests := true, laidLooks := .later }
def RunesPutsCardSaid : Prop := Claim7.holds Tryd.pinned (.plain (OpenSpec.ofChange runesPutsSpec)) runesPutsCard

/-- THE TIED CARD OF 'whetstonelaw03.RunesParts'. -/
def runesPartsCard : Claim7 := { stood := { row := runesPartsRow, standIns := [], harness := (true, "b3240c1d789eef308c6d4973bb31d574ca66b98a070a135f592a99e404581c5f"), looks := false }, kinds := [], alts := [], laidByText := true, laidKinds := [.data, .pinned], laidTests := true, laidLooks := .later }
def RunesPartsCardSaid : Prop := Claim7.holds Tryd.pinned (.plain (OpenSpec.ofChange runesPartsSpec)) runesPartsCard

/-- THE SECOND FORM's CARD OF 'whetstonelaw03.RunesQuotes'. -/
def runesQuotesUptoCard : Claim7 := { stood := { row := runesQuotesUptoRow, standIns := [], harness := (true, "b3240c1d789eef308c6d4973bb31d574ca66b98a070a135f592a99e404581c5f"), looks := false }, kinds := [], alts := [], laidByText := true, laidKinds := [.data, .pinned], laidTests := true, laidLooks := .later }
def RunesQuotesUptoCardSaid : Prop := Claim7.holds Tryd.pinned (.plain (OpenSpec.upto runesQuotesSpec)) runesQuotesUptoCard

/-- THE SECOND FORM's CARD OF 'whetstonelaw03.RunesBack'. -/
def runesBackUptoCard : Claim7 := { stood := { row := runesBackUptoRow, standIns := [], harness := (true, "b3240c1d789eef308c6d4973bb31d574ca66b98a070a135f592a99e404581c5f"), looks := false }, kinds := [], alts := [], laidByText := true, laidKinds := [.data, .pinned], laidTests := true, laidLooks := .later }
def RunesBackUptoCardSaid : Prop := Claim7.holds Tryd.pinned (.plain (OpenSpec.upto runesBackSpec)) runesBackUptoCard

/-- THE SECOND FORM's CARD OF 'whetstonelaw03.RunesReads'. -/
def runesReadsUptoCard : Claim7 := { stood := { row := runesReadsUptoRow, standIns := [], harness := (true, "b3240c1d789eef308c6d4973bb31d574ca66b98a070a135f592a99e404581c5f"), looks := false }, kinds := [], alts := [], laidByText := true, laidKinds := [.data, .pinned], laidTests := true, laidLooks := .later }
def RunesReadsUptoCardSaid : Prop := Claim7.holds Tryd.pinned (.plain (OpenSpec.upto runesReadsSpec)) runesReadsUptoCard

/-- THE SECOND FORM's CARD OF 'whetstonelaw03.RunesPuts'. -/
def runesPutsUptoCard : Claim7 := { stood := { row := runesPutsUptoRow, standIns := [], harness := (true, "b3240c1d789eef308c6d4973bb31d574ca66b98a070a135f592a99e404581c5f"), looks := false }, kinds := [], alts := [], laidByText := true, laidKinds := [.data, .pinned], laidTests := true, laidLooks := .later }
def RunesPutsUptoCardSaid : Prop := Claim7.holds Tryd.pinned (.plain (OpenSpec.upto runesPutsSpec)) runesPutsUptoCard

/-- THE SECOND FORM's CARD OF 'whetstonelaw03.RunesParts'. -/
def runesPartsUptoCard : Claim7 := { stood := { row := runesPartsUptoRow, standIns := [], harness := (true, "b3240c1d789eef308c6d4973bb31d574ca66b98a070a135f592a99e404581c5f"), looks := false }, kinds := [], alts := [], laidByText := true, laidKinds := [.data, .pinned], laidTests := true, laidLooks := .later }
def RunesPartsUptoCardSaid : Prop := Claim7.holds Tryd.pinned (.plain (OpenSpec.upto runesPartsSpec)) runesPartsUptoCard
end Rows
end Go.Proofs.YtbdgheiilmmcnaaDoor
