/-
  DERIVED. GIVEN WITH THE SEED: THE CARDS: each row of YtmgmfnimaafkdaaGreatDoorRows.lean that lists a variable, with what it lists TIED to the program's text (the seventh form; the later family's looks); each row that meets fmt, with fmt's text TOLD by the authors' own Lean function (tested against real Go, not proved from fmt's source: count such statements apart). THE CARD IS WHAT COUNTS. Prove the row's statement (the work); the ties are given (YtmgmfnimaafkdaaGreatDoorTie.lean); close each card by the builder's one call (the guide's Derived/Test/ToyasCard.lean, 'card_holds'). Laid BY PROGRAM, IN A SANDBOX (cutbox-door.mjs). By AI agents, Wed Nov 11 2026. No macro, syntax, notation, axiom, sorry.
-/
import Derived.Test.YtmgmfnimaafkdaaGreatDoorRows
import GoSem.ClaimSeven
namespace Go.Proofs.YtmgmfnimaafkdaaGreatDoor
namespace Rows

/-- THE TIED CARD OF 'mandolinelaw23.StoreOpens'. -/
def storeOpensCard : Claim7 := { stood := { row := storeOpensRow, standIns := [], harness := (true, "209465126921618adcba03cc87c42158259f8c7376558b035b250d64474314ce"), looks := true }, kinds := [], alts := [], laidByText := true, laidKinds := [.data, .data, .data, .data, .data, .sentinel, .sentinel, .pinned], laidTests := true, laidLooks := .later }
def StoreOpensCardSaid : Prop := Claim7.holds Tryz.pinned (.plain (OpenSpec.ofChange storeOpensSpec)) storeOpensCard

/-- THE TIED CARD OF 'mandolinelaw23.StoreLasts'. -/
def storeLastsCard : Claim7 := { stood := { row := storeLastsRow, standIns := [], harness := (true, "209465126921618adcba03cc87c42158259f8c7376558b035b250d64474314ce"), looks := true }, kinds := [], alts := [], laidByText := true, laidKinds := [.data, .data, .data, .data, .data, .sentinel, .sentinel, .pinned], laidTests := true, laidLooks := .later }
def StoreLastsCardSaid : Prop := Claim7.holds Tryz.pinned (.plain (OpenSpec.ofChange storeLastsSpec)) storeLastsCard

/-- THE TIED CARD OF 'mandolinelaw23.StoreAgain'. -/
def storeAgainCard : Claim7 := { stood := { row := storeAgainRow, standIns := [], harness := (true, "209465126921618adcba03cc87c42158259f8c7376558b035b250d64474314ce"), looks := true }, kinds := [], alts := [], laidByText := true, laidKinds := [.data, .data, .data, .data, .data, .sentinel, .sentinel, .pinned], laidTests := true, laidLooks := .later }
def StoreAgainCardSaid : Prop := Claim7.holds Tryz.pinned (.plain (OpenSpec.ofChange storeAgainSpec)) storeAgainCard

/-- THE TIED CARD OF 'mandolinelaw23.StorePlays'. -/
def storePlaysCard : Claim7 := { stood := { row := storePlaysRow, standIns := [], harness := (true, "209465126921618adcba03cc87c42158259f8c7376558b035b250d64474314ce"), looks := true }, kinds := [], alts := [], laidByText := true, laidKinds := [.data, .data, .data, .data, .data, .sentinel, .sentinel, .pinned], laidTests := true, laidLooks := .later }
def StorePlaysCardSaid : Prop := Claim7.holds Tryz.pinned (.plain (OpenSpec.ofChange storePlaysSpec)) storePlaysCard

/-- THE TIED CARD OF 'mandolinelaw23.StoreNil'. -/
def storeNilCard : Claim7 := { stood := { row := storeNilRow, standIns := [], harness := (true, "209465126921618adcba03cc87c42158259f8c7376558b035b250d64474314ce"), looks := true }, kinds := [], alts := [], laidByText := true, laidKinds := [.data, .data, .data, .data, .data, .sentinel, .sentinel, .pinned], laidTests := true, laidLooks := .later }
def StoreNilCardSaid : Prop := Claim7.holds Tryz.pinned (.plain (OpenSpec.ofChange storeNilSpec)) storeNilCard

/-- THE TIED CARD OF 'mandolinelaw23.StoreRots'. -/
def storeRotsCard : Claim7 := { stood := { row := storeRotsRow, standIns := [], harness := (true, "209465126921618adcba03cc87c42158259f8c7376558b035b250d64474314ce"), looks := true }, kinds := [], alts := [], laidByText := true, laidKinds := [.data, .data, .data, .data, .data, .sentinel, .sentinel, .pinned], laidTests := true, laidLooks := .later }
def StoreRotsCardSaid : Prop := Claim7.holds Tryz.pinned (.plain (OpenSpec.ofChange storeRotsSpec)) storeRotsCard

/-- THE TIED CARD OF 'mandolinelaw24.ScrubFinds'. -/
def scrubFindsCard : Claim7 := { stood := { row := scrubFindsRow, standIns := [], harness := (true, "209465126921618adcba03cc87c42158259f8c7376558b035b250d64474314ce"), looks := true }, kinds := [], alts := [], laidByText := true, laidKinds := [.data, .data, .data, .data, .data, .sentinel, .sentinel, .pinned], laidTests := true, laidLooks := .later }
def ScrubFindsCardSaid : Prop := Claim7.holds Tryz.pinned (.plain (OpenSpec.ofChange scrubFindsSpec)) scrubFindsCard

/-- THE TIED CARD OF 'mandolinelaw24.ScrubRound'. -/
def scrubRoundCard : Claim7 := { stood := { row := scrubRoundRow, standIns := [], harness := (true, "209465126921618adcba03cc87c42158259f8c7376558b035b250d64474314ce"), looks := true }, kinds := [], alts := [], laidByText := true, laidKinds := [.data, .data, .data, .data, .data, .sentinel, .sentinel, .pinned], laidTests := true, laidLooks := .later }
def ScrubRoundCardSaid : Prop := Claim7.holds Tryz.pinned (.plain (OpenSpec.ofChange scrubRoundSpec)) scrubRoundCard

/-- THE TIED CARD OF 'mandolinelaw24.ScrubLooks'. -/
def scrubLooksCard : Claim7 := { stood := { row := scrubLooksRow, standIns := [], harness := (true, "209465126921618adcba03cc87c42158259f8c7376558b035b250d64474314ce"), looks := true }, kinds := [], alts := [], laidByText := true, laidKinds := [.data, .data, .data, .data, .data, .sentinel, .sentinel, .pinned], laidTests := true, laidLooks := .later }
def ScrubLooksCardSaid : Prop := Claim7.holds Tryz.pinned (.plain (OpenSpec.ofChange scrubLooksSpec)) scrubLooksCard

/-- THE TIED CARD OF 'mandolinelaw24.ScrubHeals'. -/
def scrubHealsCard : Claim7 := { stood := { row := scrubHealsRow, standIns := [], harness := (true, "209465126921618adcba03cc87c42158259f8c7376558b035b250d64474314ce"), looks := true }, kinds := [], alts := [], laidByText := true, laidKinds := [.data, .data, .data, .data, .data, .sentinel, .sentinel, .pinned], laidTests := true, laidLooks := .later }
def ScrubHealsCardSaid : Prop := Claim7.holds Tryz.pinned (.plain (OpenSpec.ofChange scrubHealsSpec)) scrubHealsCard

/-- THE TIED CARD OF 'mandolinelaw24.ScrubTexts'. -/
def scrubTextsCard : Claim7 := { stood := { row := scrubTextsRow, standIns := [], harness := (true, "209465126921618adcba03cc87c42158259f8c7376558b035b250d64474314ce"), looks := true }, kinds := [], alts := [], laidByText := true, laidKinds := [.data, .data, .data, .data, .data, .sentinel, .sentinel, .pinned], laidTests := true, laidLooks := .later }
def ScrubTextsCardSaid : Prop := Claim7.holds Tryz.pinned (.plain (OpenSpec.ofChange scrubTextsSpec)) scrubTextsCard

/-- THE SECOND FORM's CARD OF 'mandolinelaw23.StoreOpens'. -/
def storeOpensUptoCard : Claim7 := { stood := { row := storeOpensUptoRow, standIns := [], harness := (true, "209465126921618adcba03cc87c42158259f8c7376558b035b250d64474314ce"), looks := true }, kinds := [], alts := [], laidByText := true, laidKinds := [.data, .data, .data, .data, .data, .sentinel, .sentinel, .pinned], laidTests := true, laidLooks := .later }
def StoreOpensUptoCardSaid : Prop := Claim7.holds Tryz.pinned (.plain (OpenSpec.upto storeOpensSpec)) storeOpensUptoCard

/-- THE SECOND FORM's CARD OF 'mandolinelaw23.StoreLasts'. -/
def storeLastsUptoCard : Claim7 := { stood := { row := storeLastsUptoRow, standIns := [], harness := (true, "209465126921618adcba03cc87c42158259f8c7376558b035b250d64474314ce"), looks := true }, kinds := [], alts := [], laidByText := true, laidKinds := [.data, .data, .data, .data, .data, .sentinel, .sentinel, .pinned], laidTests := true, laidLooks := .later }
def StoreLastsUptoCardSaid : Prop := Claim7.holds Tryz.pinned (.plain (OpenSpec.upto storeLastsSpec)) storeLastsUptoCard

/-- THE SECOND FORM's CARD OF 'mandolinelaw23.StoreAgain'. -/
def storeAgainUptoCard : Claim7 := { stood := { row := storeAgainUptoRow, standIns := [], harness := (true, "209465126921618adcba03cc87c42158259f8c7376558b035b250d64474314ce"), looks := true }, kinds := [], alts := [], laidByText := true, laidKinds := [.data, .data, .data, .data, .data, .sentinel, .sentinel, .pinned], laidTests := true, laidLooks := .later }
def StoreAgainUptoCardSaid : Prop := Claim7.holds Tryz.pinned (.plain (OpenSpec.upto storeAgainSpec)) storeAgainUptoCard

/-- THE SECOND FORM's CARD OF 'mandolinelaw23.StorePlays'. -/
def storePlaysUptoCard : Claim7 := { stood := { row := storePlaysUptoRow, standIns := [], harness := (true, "209465126921618adcba03cc87c42158259f8c7376558b035b250d64474314ce"), looks := true }, kinds := [], alts := [], laidByText := true, laidKinds := [.data, .data, .data, .data, .data, .sentinel, .sentinel, .pinned], laidTests := true, laidLooks := .later }
def StorePlaysUptoCardSaid : Prop := Claim7.holds Tryz.pinned (.plain (OpenSpec.upto storePlaysSpec)) storePlaysUptoCard

/-- THE SECOND FORM's CARD OF 'mandolinelaw23.StoreNil'. -/
def storeNilUptoCard : Claim7 := { stood := { row := storeNilUptoRow, standIns := [], harness := (true, "209465126921618adcba03cc87c42158259f8c7376558b035b250d64474314ce"), looks := true }, kinds := [], alts := [], laidByText := true, laidKinds := [.data, .data, .data, .data, .data, .sentinel, .sentinel, .pinned], laidTests := true, laidLooks := .later }
def StoreNilUptoCardSaid : Prop := Claim7.holds Tryz.pinned (.plain (OpenSpec.upto storeNilSpec)) storeNilUptoCard

/-- THE SECOND FORM's CARD OF 'mandolinelaw23.StoreRots'. -/
def storeRotsUptoCard : Claim7 := { stood := { row := storeRotsUptoRow, standIns := [], harness := (true, "209465126921618adcba03cc87c42158259f8c7376558b035b250d64474314ce"), looks := true }, kinds := [], alts := [], laidByText := true, laidKinds := [.data, .data, .data, .data, .data, .sentinel, .sentinel, .pinned], laidTests := true, laidLooks := .later }
def StoreRotsUptoCardSaid : Prop := Claim7.holds Tryz.pinned (.plain (OpenSpec.upto storeRotsSpec)) storeRotsUptoCard

/-- THE SECOND FORM's CARD OF 'mandolinelaw24.ScrubFinds'. -/
def scrubFindsUptoCard : Claim7 := { stood := { row := scrubFindsUptoRow, standIns := [], harness := (true, "209465126921618adcba03cc87c42158259f8c7376558b035b250d64474314ce"), looks := true }, kinds := [], alts := [], laidByText := true, laidKinds := [.data, .data, .data, .data, .data, .sentinel, .sentinel, .pinned], laidTests := true, laidLooks := .later }
def ScrubFindsUptoCardSaid : Prop := Claim7.holds Tryz.pinned (.plain (OpenSpec.upto scrubFindsSpec)) scrubFindsUptoCard

/-- THE SECOND FORM's CARD OF 'mandolinelaw24.ScrubRound'. -/
def scrubRoundUptoCard : Claim7 := { stood := { row := scrubRoundUptoRow, standIns := [], harness := (true, "209465126921618adcba03cc87c42158259f8c7376558b035b250d64474314ce"), looks := true }, kinds := [], alts := [], laidByText := true, laidKinds := [.data, .data, .data, .data, .data, .sentinel, .sentinel, .pinned], laidTests := true, laidLooks := .later }
def ScrubRoundUptoCardSaid : Prop := Claim7.holds Tryz.pinned (.plain (OpenSpec.upto scrubRoundSpec)) scrubRoundUptoCard

/-- THE SECOND FORM's CARD OF 'mandolinelaw24.ScrubLooks'. -/
def scrubLooksUptoCard : Claim7 := { stood := { row := scrubLooksUptoRow, standIns := [], harness := (true, "209465126921618adcba03cc87c42158259f8c7376558b035b250d64474314ce"), looks := true }, kinds := [], alts := [], laidByText := true, laidKinds := [.data, .data, .data, .data, .data, .sentinel, .sentinel, .pinned], laidTests := true, laidLooks := .later }
def ScrubLooksUptoCardSaid : Prop := Claim7.holds Tryz.pinned (.plain (OpenSpec.upto scrubLooksSpec)) scrubLooksUptoCard

/-- THE SECOND FORM's CARD OF 'mandolinelaw24.ScrubHeals'. -/
def scrubHealsUptoCard : Claim7 := { stood := { row := scrubHealsUptoRow, standIns := [], harness := (true, "209465126921618adcba03cc87c42158259f8c7376558b035b250d64474314ce"), looks := true }, kinds := [], alts := [], laidByText := true, laidKinds := [.data, .data, .data, .data, .data, .sentinel, .sentinel, .pinned], laidTests := true, laidLooks := .later }
def ScrubHealsUptoCardSaid : Prop := Claim7.holds Tryz.pinned (.plain (OpenSpec.upto scrubHealsSpec)) scrubHealsUptoCard

/-- THE SECOND FORM's CARD OF 'mandolinelaw24.ScrubTexts'. -/
def scrubTextsUptoCard : Claim7 := { stood := { row := scrubTextsUptoRow, standIns := [], harness := (true, "209465126921618adcba03cc87c42158259f8c7376558b035b250d64474314ce"), looks := true }, kinds := [], alts := [], laidByText := true, laidKinds := [.data, .data, .data, .data, .data, .sentinel, .sentinel, .pinned], laidTests := true, laidLooks := .later }
def ScrubTextsUptoCardSaid : Prop := Claim7.holds Tryz.pinned (.plain (OpenSpec.upto scrubTextsSpec)) scrubTextsUptoCard
end Rows
end Go.Proofs.YtmgmfnimaafkdaaGreatDoor
