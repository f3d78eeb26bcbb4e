/-
  DERIVED. GIVEN WITH THE SEED: THE CARDS: each row of YtddcgojpgdhefaaGreatDoorRows.lean that lists a variable, with what it lists TIED to the program's text (the seventh form; the later family's looks); each row that meets fmt, with fmt's text TOLD by the authors' own Lean function (tested against real Go, not proved from fmt's source: count such statements apart). THE CARD IS WHAT COUNTS. Prove the row's statement (the work); the ties are given (YtddcgojpgdhefaaGreatDoorTie.lean); close each card by the builder's one call (the guide's Derived/Test/ToyasCard.lean, 'card_holds'). Laid BY PROGRAM, IN A SANDBOX (cutbox-door.mjs). By AI agents, Wed Nov 11 2026. No macro, syntax, notation, axiom, sorry.
-/
import Derived.Test.YtddcgojpgdhefaaGreatDoorRows
import GoSem.ClaimSeven
namespace Go.Proofs.YtddcgojpgdhefaaGreatDoor
namespace Rows

/-- THE TIED CARD OF 'eliminantlaw01.IntegerCanonical'. -/
def integerCanonicalCard : Claim7 := { stood := { row := integerCanonicalRow, standIns := [], harness := (true, "e24354700376a84ba7ea18d688388f95e0d333dcceed4af53a45542a7907d896"), looks := true }, kinds := [], alts := [], laidByText := true, laidKinds := [.data, .data, .data, .data, .sentinel, .sentinel, .pinned], laidTests := true, laidLooks := .later }
def IntegerCanonicalCardSaid : Prop := Claim7.holds Tryz.pinned (.plain (OpenSpec.ofChange integerCanonicalSpec)) integerCanonicalCard

/-- THE TIED CARD OF 'eliminantlaw01.IntegerRing'. -/
def integerRingCard : Claim7 := { stood := { row := integerRingRow, standIns := [], harness := (true, "e24354700376a84ba7ea18d688388f95e0d333dcceed4af53a45542a7907d896"), looks := true }, kinds := [], alts := [], laidByText := true, laidKinds := [.data, .data, .data, .data, .sentinel, .sentinel, .pinned], laidTests := true, laidLooks := .later }
def IntegerRingCardSaid : Prop := Claim7.holds Tryz.pinned (.plain (OpenSpec.ofChange integerRingSpec)) integerRingCard

/-- THE TIED CARD OF 'eliminantlaw01.IntegerOrder'. -/
def integerOrderCard : Claim7 := { stood := { row := integerOrderRow, standIns := [], harness := (true, "e24354700376a84ba7ea18d688388f95e0d333dcceed4af53a45542a7907d896"), looks := true }, kinds := [], alts := [], laidByText := true, laidKinds := [.data, .data, .data, .data, .sentinel, .sentinel, .pinned], laidTests := true, laidLooks := .later }
def IntegerOrderCardSaid : Prop := Claim7.holds Tryz.pinned (.plain (OpenSpec.ofChange integerOrderSpec)) integerOrderCard

/-- THE TIED CARD OF 'eliminantlaw01.IntegerDivides'. -/
def integerDividesCard : Claim7 := { stood := { row := integerDividesRow, standIns := [], harness := (true, "e24354700376a84ba7ea18d688388f95e0d333dcceed4af53a45542a7907d896"), looks := true }, kinds := [], alts := [], laidByText := true, laidKinds := [.data, .data, .data, .data, .sentinel, .sentinel, .pinned], laidTests := true, laidLooks := .later }
def IntegerDividesCardSaid : Prop := Claim7.holds Tryz.pinned (.plain (OpenSpec.ofChange integerDividesSpec)) integerDividesCard

/-- THE TIED CARD OF 'eliminantlaw01.IntegerPowers'. -/
def integerPowersCard : Claim7 := { stood := { row := integerPowersRow, standIns := [], harness := (true, "e24354700376a84ba7ea18d688388f95e0d333dcceed4af53a45542a7907d896"), looks := true }, kinds := [], alts := [], laidByText := true, laidKinds := [.data, .data, .data, .data, .sentinel, .sentinel, .pinned], laidTests := true, laidLooks := .later }
def IntegerPowersCardSaid : Prop := Claim7.holds Tryz.pinned (.plain (OpenSpec.ofChange integerPowersSpec)) integerPowersCard

/-- THE TIED CARD OF 'eliminantlaw01.IntegerTexts'. -/
def integerTextsCard : Claim7 := { stood := { row := integerTextsRow, standIns := [], harness := (true, "e24354700376a84ba7ea18d688388f95e0d333dcceed4af53a45542a7907d896"), looks := true }, kinds := [], alts := [], laidByText := true, laidKinds := [.data, .data, .data, .data, .sentinel, .sentinel, .pinned], laidTests := true, laidLooks := .later }
def IntegerTextsCardSaid : Prop := Claim7.holds Tryz.pinned (.plain (OpenSpec.ofChange integerTextsSpec)) integerTextsCard

/-- THE TIED CARD OF 'eliminantlaw01.IntegerParses'. -/
def integerParsesCard : Claim7 := { stood := { row := integerParsesRow, standIns := [], harness := (true, "e24354700376a84ba7ea18d688388f95e0d333dcceed4af53a45542a7907d896"), looks := true }, kinds := [], alts := [], laidByText := true, laidKinds := [.data, .data, .data, .data, .sentinel, .sentinel, .pinned], laidTests := true, laidLooks := .later }
def IntegerParsesCardSaid : Prop := Claim7.holds Tryz.pinned (.plain (OpenSpec.ofChange integerParsesSpec)) integerParsesCard

/-- THE TIED CARD OF 'eliminantlaw01.IntegerSmall'. -/
def integerSmallCard : Claim7 := { stood := { row := integerSmallRow, standIns := [], harness := (true, "e24354700376a84ba7ea18d688388f95e0d333dcceed4af53a45542a7907d896"), looks := true }, kinds := [], alts := [], laidByText := true, laidKinds := [.data, .data, .data, .data, .sentinel, .sentinel, .pinned], laidTests := true, laidLooks := .later }
def IntegerSmallCardSaid : Prop := Claim7.holds Tryz.pinned (.plain (OpenSpec.ofChange integerSmallSpec)) integerSmallCard

/-- THE TIED CARD OF 'eliminantlaw01.IntegerMatchesReference'. -/
def integerMatchesReferenceCard : Claim7 := { stood := { row := integerMatchesReferenceRow, standIns := [], harness := (true, "e24354700376a84ba7ea18d688388f95e0d333dcceed4af53a45542a7907d896"), looks := true }, kinds := [], alts := [], laidByText := true, laidKinds := [.data, .data, .data, .data, .sentinel, .sentinel, .pinned], laidTests := true, laidLooks := .later }
def IntegerMatchesReferenceCardSaid : Prop := Claim7.holds Tryz.pinned (.plain (OpenSpec.ofChange integerMatchesReferenceSpec)) integerMatchesReferenceCard

/-- THE TIED CARD OF 'eliminantlaw01.IntegerDivisors'. -/
def integerDivisorsCard : Claim7 := { stood := { row := integerDivisorsRow, standIns := [], harness := (true, "e24354700376a84ba7ea18d688388f95e0d333dcceed4af53a45542a7907d896"), looks := true }, kinds := [], alts := [], laidByText := true, laidKinds := [.data, .data, .data, .data, .sentinel, .sentinel, .pinned], laidTests := true, laidLooks := .later }
def IntegerDivisorsCardSaid : Prop := Claim7.holds Tryz.pinned (.plain (OpenSpec.ofChange integerDivisorsSpec)) integerDivisorsCard

/-- THE SECOND FORM's CARD OF 'eliminantlaw01.IntegerCanonical'. -/
def integerCanonicalUptoCard : Claim7 := { stood := { row := integerCanonicalUptoRow, standIns := [], harness := (true, "e24354700376a84ba7ea18d688388f95e0d333dcceed4af53a45542a7907d896"), looks := true }, kinds := [], alts := [], laidByText := true, laidKinds := [.data, .data, .data, .data, .sentinel, .sentinel, .pinned], laidTests := true, laidLooks := .later }
def IntegerCanonicalUptoCardSaid : Prop := Claim7.holds Tryz.pinned (.plain (OpenSpec.upto integerCanonicalSpec)) integerCanonicalUptoCard

/-- THE SECOND FORM's CARD OF 'eliminantlaw01.IntegerRing'. -/
def integerRingUptoCard : Claim7 := { stood := { row := integerRingUptoRow, standIns := [], harness := (true, "e24354700376a84ba7ea18d688388f95e0d333dcceed4af53a45542a7907d896"), looks := true }, kinds := [], alts := [], laidByText := true, laidKinds := [.data, .data, .data, .data, .sentinel, .sentinel, .pinned], laidTests := true, laidLooks := .later }
def IntegerRingUptoCardSaid : Prop := Claim7.holds Tryz.pinned (.plain (OpenSpec.upto integerRingSpec)) integerRingUptoCard

/-- THE SECOND FORM's CARD OF 'eliminantlaw01.IntegerOrder'. -/
def integerOrderUptoCard : Claim7 := { stood := { row := integerOrderUptoRow, standIns := [], harness := (true, "e24354700376a84ba7ea18d688388f95e0d333dcceed4af53a45542a7907d896"), looks := true }, kinds := [], alts := [], laidByText := true, laidKinds := [.data, .data, .data, .data, .sentinel, .sentinel, .pinned], laidTests := true, laidLooks := .later }
def IntegerOrderUptoCardSaid : Prop := Claim7.holds Tryz.pinned (.plain (OpenSpec.upto integerOrderSpec)) integerOrderUptoCard

/-- THE SECOND FORM's CARD OF 'eliminantlaw01.IntegerDivides'. -/
def integerDividesUptoCard : Claim7 := { stood := { row := integerDividesUptoRow, standIns := [], harness := (true, "e24354700376a84ba7ea18d688388f95e0d333dcceed4af53a45542a7907d896"), looks := true }, kinds := [], alts := [], laidByText := true, laidKinds := [.data, .data, .data, .data, .sentinel, .sentinel, .pinned], laidTests := true, laidLooks := .later }
def IntegerDividesUptoCardSaid : Prop := Claim7.holds Tryz.pinned (.plain (OpenSpec.upto integerDividesSpec)) integerDividesUptoCard

/-- THE SECOND FORM's CARD OF 'eliminantlaw01.IntegerPowers'. -/
def integerPowersUptoCard : Claim7 := { stood := { row := integerPowersUptoRow, standIns := [], harness := (true, "e24354700376a84ba7ea18d688388f95e0d333dcceed4af53a45542a7907d896"), looks := true }, kinds := [], alts := [], laidByText := true, laidKinds := [.data, .data, .data, .data, .sentinel, .sentinel, .pinned], laidTests := true, laidLooks := .later }
def IntegerPowersUptoCardSaid : Prop := Claim7.holds Tryz.pinned (.plain (OpenSpec.upto integerPowersSpec)) integerPowersUptoCard

/-- THE SECOND FORM's CARD OF 'eliminantlaw01.IntegerTexts'. -/
def integerTextsUptoCard : Claim7 := { stood := { row := integerTextsUptoRow, standIns := [], harness := (true, "e24354700376a84ba7ea18d688388f95e0d333dcceed4af53a45542a7907d896"), looks := true }, kinds := [], alts := [], laidByText := true, laidKinds := [.data, .data, .data, .data, .sentinel, .sentinel, .pinned], laidTests := true, laidLooks := .later }
def IntegerTextsUptoCardSaid : Prop := Claim7.holds Tryz.pinned (.plain (OpenSpec.upto integerTextsSpec)) integerTextsUptoCard

/-- THE SECOND FORM's CARD OF 'eliminantlaw01.IntegerParses'. -/
def integerParsesUptoCard : Claim7 := { stood := { row := integerParsesUptoRow, standIns := [], harness := (true, "e24354700376a84ba7ea18d688388f95e0d333dcceed4af53a45542a7907d896"), looks := true }, kinds := [], alts := [], laidByText := true, laidKinds := [.data, .data, .data, .data, .sentinel, .sentinel, .pinned], laidTests := true, laidLooks := .later }
def IntegerParsesUptoCardSaid : Prop := Claim7.holds Tryz.pinned (.plain (OpenSpec.upto integerParsesSpec)) integerParsesUptoCard

/-- THE SECOND FORM's CARD OF 'eliminantlaw01.IntegerSmall'. -/
def integerSmallUptoCard : Claim7 := { stood := { row := integerSmallUptoRow, standIns := [], harness := (true, "e24354700376a84ba7ea18d688388f95e0d333dcceed4af53a45542a7907d896"), looks := true }, kinds := [], alts := [], laidByText := true, laidKinds := [.data, .data, .data, .data, .sentinel, .sentinel, .pinned], laidTests := true, laidLooks := .later }
def IntegerSmallUptoCardSaid : Prop := Claim7.holds Tryz.pinned (.plain (OpenSpec.upto integerSmallSpec)) integerSmallUptoCard

/-- THE SECOND FORM's CARD OF 'eliminantlaw01.IntegerMatchesReference'. -/
def integerMatchesReferenceUptoCard : Claim7 := { stood := { row := integerMatchesReferenceUptoRow, standIns := [], harness := (true, "e24354700376a84ba7ea18d688388f95e0d333dcceed4af53a45542a7907d896"), looks := true }, kinds := [], alts := [], laidByText := true, laidKinds := [.data, .data, .data, .data, .sentinel, .sentinel, .pinned], laidTests := true, laidLooks := .later }
def IntegerMatchesReferenceUptoCardSaid : Prop := Claim7.holds Tryz.pinned (.plain (OpenSpec.upto integerMatchesReferenceSpec)) integerMatchesReferenceUptoCard

/-- THE SECOND FORM's CARD OF 'eliminantlaw01.IntegerDivisors'. -/
def integerDivisorsUptoCard : Claim7 := { stood := { row := integerDivisorsUptoRow, standIns := [], harness := (true, "e24354700376a84ba7ea18d688388f95e0d333dcceed4af53a45542a7907d896"), looks := true }, kinds := [], alts := [], laidByText := true, laidKinds := [.data, .data, .data, .data, .sentinel, .sentinel, .pinned], laidTests := true, laidLooks := .later }
def IntegerDivisorsUptoCardSaid : Prop := Claim7.holds Tryz.pinned (.plain (OpenSpec.upto integerDivisorsSpec)) integerDivisorsUptoCard
end Rows
end Go.Proofs.YtddcgojpgdhefaaGreatDoor
