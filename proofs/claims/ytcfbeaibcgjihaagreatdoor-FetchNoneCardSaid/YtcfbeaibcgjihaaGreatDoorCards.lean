/-
  DERIVED. GIVEN WITH THE SEED: THE CARDS: each row of YtcfbeaibcgjihaaGreatDoorRows.lean that lists a variable, with what it lists TIED to the program's text (the seventh form; the later family's looks); each row that meets fmt, with fmt's text TOLD by the authors' own Lean function (tested against real Go, not proved from fmt's source: count such statements apart). THE CARD IS WHAT COUNTS. Prove the row's statement (the work); the ties are given (YtcfbeaibcgjihaaGreatDoorTie.lean); close each card by the builder's one call (the guide's Derived/Test/ToyasCard.lean, 'card_holds'). Laid BY PROGRAM, IN A SANDBOX (cutbox-door.mjs). By AI agents, Wed Nov 11 2026. No macro, syntax, notation, axiom, sorry.
-/
import Derived.Test.YtcfbeaibcgjihaaGreatDoorRows
import GoSem.ClaimSeven
namespace Go.Proofs.YtcfbeaibcgjihaaGreatDoor
namespace Rows

/-- THE TIED CARD OF 'ladinglaw16.HoldTurns'. -/
def holdTurnsCard : Claim7 := { stood := { row := holdTurnsRow, standIns := [], harness := (true, "bdc866883f84d1ce83727e0213f640303053a3cc4eaadbb31f9a557d8e27ec14"), looks := true }, kinds := [], alts := [], laidByText := true, laidKinds := [.handle], laidTests := true, laidLooks := .later }
def HoldTurnsCardSaid : Prop := Claim7.holds Tryz.pinned (.plain (OpenSpec.ofChange holdTurnsSpec)) holdTurnsCard

/-- THE TIED CARD OF 'ladinglaw16.HoldFull'. -/
def holdFullCard : Claim7 := { stood := { row := holdFullRow, standIns := [], harness := (true, "bdc866883f84d1ce83727e0213f640303053a3cc4eaadbb31f9a557d8e27ec14"), looks := true }, kinds := [], alts := [], laidByText := true, laidKinds := [.handle], laidTests := true, laidLooks := .later }
def HoldFullCardSaid : Prop := Claim7.holds Tryz.pinned (.plain (OpenSpec.ofChange holdFullSpec)) holdFullCard

/-- THE TIED CARD OF 'ladinglaw20.FetchNone'. -/
def fetchNoneCard : Claim7 := { stood := { row := fetchNoneRow, standIns := [], harness := (true, "bdc866883f84d1ce83727e0213f640303053a3cc4eaadbb31f9a557d8e27ec14"), looks := true }, kinds := [], alts := [], laidByText := true, laidKinds := [.handle], laidTests := true, laidLooks := .later }
def FetchNoneCardSaid : Prop := Claim7.holds Tryz.pinned (.plain (OpenSpec.ofChange fetchNoneSpec)) fetchNoneCard

/-- THE TIED CARD OF 'ladinglaw22.PubTells'. -/
def pubTellsCard : Claim7 := { stood := { row := pubTellsRow, standIns := [], harness := (true, "bdc866883f84d1ce83727e0213f640303053a3cc4eaadbb31f9a557d8e27ec14"), looks := true }, kinds := [], alts := [], laidByText := true, laidKinds := [.handle], laidTests := true, laidLooks := .later }
def PubTellsCardSaid : Prop := Claim7.holds Tryz.pinned (.plain (OpenSpec.ofChange pubTellsSpec)) pubTellsCard

/-- THE TIED CARD OF 'ladinglaw20.FetchPlays'. -/
def fetchPlaysCard : Claim7 := { stood := { row := fetchPlaysRow, standIns := [], harness := (true, "bdc866883f84d1ce83727e0213f640303053a3cc4eaadbb31f9a557d8e27ec14"), looks := true }, kinds := [], alts := [], laidByText := true, laidKinds := [.handle], laidTests := true, laidLooks := .later }
def FetchPlaysCardSaid : Prop := Claim7.holds Tryz.pinned (.plain (OpenSpec.ofChange fetchPlaysSpec)) fetchPlaysCard

/-- THE TIED CARD OF 'ladinglaw16.HoldScrubs'. -/
def holdScrubsCard : Claim7 := { stood := { row := holdScrubsRow, standIns := [], harness := (true, "bdc866883f84d1ce83727e0213f640303053a3cc4eaadbb31f9a557d8e27ec14"), looks := true }, kinds := [], alts := [], laidByText := true, laidKinds := [.handle], laidTests := true, laidLooks := .later }
def HoldScrubsCardSaid : Prop := Claim7.holds Tryz.pinned (.plain (OpenSpec.ofChange holdScrubsSpec)) holdScrubsCard

/-- THE TIED CARD OF 'ladinglaw16.HoldAgain'. -/
def holdAgainCard : Claim7 := { stood := { row := holdAgainRow, standIns := [], harness := (true, "bdc866883f84d1ce83727e0213f640303053a3cc4eaadbb31f9a557d8e27ec14"), looks := true }, kinds := [], alts := [], laidByText := true, laidKinds := [.handle], laidTests := true, laidLooks := .later }
def HoldAgainCardSaid : Prop := Claim7.holds Tryz.pinned (.plain (OpenSpec.ofChange holdAgainSpec)) holdAgainCard

/-- THE SECOND FORM's CARD OF 'ladinglaw16.HoldTurns'. -/
def holdTurnsUptoCard : Claim7 := { stood := { row := holdTurnsUptoRow, standIns := [], harness := (true, "bdc866883f84d1ce83727e0213f640303053a3cc4eaadbb31f9a557d8e27ec14"), looks := true }, kinds := [], alts := [], laidByText := true, laidKinds := [.handle], laidTests := true, laidLooks := .later }
def HoldTurnsUptoCardSaid : Prop := Claim7.holds Tryz.pinned (.plain (OpenSpec.upto holdTurnsSpec)) holdTurnsUptoCard

/-- THE SECOND FORM's CARD OF 'ladinglaw16.HoldFull'. -/
def holdFullUptoCard : Claim7 := { stood := { row := holdFullUptoRow, standIns := [], harness := (true, "bdc866883f84d1ce83727e0213f640303053a3cc4eaadbb31f9a557d8e27ec14"), looks := true }, kinds := [], alts := [], laidByText := true, laidKinds := [.handle], laidTests := true, laidLooks := .later }
def HoldFullUptoCardSaid : Prop := Claim7.holds Tryz.pinned (.plain (OpenSpec.upto holdFullSpec)) holdFullUptoCard

/-- THE SECOND FORM's CARD OF 'ladinglaw20.FetchNone'. -/
def fetchNoneUptoCard : Claim7 := { stood := { row := fetchNoneUptoRow, standIns := [], harness := (true, "bdc866883f84d1ce83727e0213f640303053a3cc4eaadbb31f9a557d8e27ec14"), looks := true }, kinds := [], alts := [], laidByText := true, laidKinds := [.handle], laidTests := true, laidLooks := .later }
def FetchNoneUptoCardSaid : Prop := Claim7.holds Tryz.pinned (.plain (OpenSpec.upto fetchNoneSpec)) fetchNoneUptoCard

/-- THE SECOND FORM's CARD OF 'ladinglaw22.PubTells'. -/
def pubTellsUptoCard : Claim7 := { stood := { row := pubTellsUptoRow, standIns := [], harness := (true, "bdc866883f84d1ce83727e0213f640303053a3cc4eaadbb31f9a557d8e27ec14"), looks := true }, kinds := [], alts := [], laidByText := true, laidKinds := [.handle], laidTests := true, laidLooks := .later }
def PubTellsUptoCardSaid : Prop := Claim7.holds Tryz.pinned (.plain (OpenSpec.upto pubTellsSpec)) pubTellsUptoCard

/-- THE SECOND FORM's CARD OF 'ladinglaw20.FetchPlays'. -/
def fetchPlaysUptoCard : Claim7 := { stood := { row := fetchPlaysUptoRow, standIns := [], harness := (true, "bdc866883f84d1ce83727e0213f640303053a3cc4eaadbb31f9a557d8e27ec14"), looks := true }, kinds := [], alts := [], laidByText := true, laidKinds := [.handle], laidTests := true, laidLooks := .later }
def FetchPlaysUptoCardSaid : Prop := Claim7.holds Tryz.pinned (.plain (OpenSpec.upto fetchPlaysSpec)) fetchPlaysUptoCard

/-- THE SECOND FORM's CARD OF 'ladinglaw16.HoldScrubs'. -/
def holdScrubsUptoCard : Claim7 := { stood := { row := holdScrubsUptoRow, standIns := [], harness := (true, "bdc866883f84d1ce83727e0213f640303053a3cc4eaadbb31f9a557d8e27ec14"), looks := true }, kinds := [], alts := [], laidByText := true, laidKinds := [.handle], laidTests := true, laidLooks := .later }
def HoldScrubsUptoCardSaid : Prop := Claim7.holds Tryz.pinned (.plain (OpenSpec.upto holdScrubsSpec)) holdScrubsUptoCard

/-- THE SECOND FORM's CARD OF 'ladinglaw16.HoldAgain'. -/
def holdAgainUptoCard : Claim7 := { stood := { row := holdAgainUptoRow, standIns := [], harness := (true, "bdc866883f84d1ce83727e0213f640303053a3cc4eaadbb31f9a557d8e27ec14"), looks := true }, kinds := [], alts := [], laidByText := true, laidKinds := [.handle], laidTests := true, laidLooks := .later }
def HoldAgainUptoCardSaid : Prop := Claim7.holds Tryz.pinned (.plain (OpenSpec.upto holdAgainSpec)) holdAgainUptoCard
end Rows
end Go.Proofs.YtcfbeaibcgjihaaGreatDoor
