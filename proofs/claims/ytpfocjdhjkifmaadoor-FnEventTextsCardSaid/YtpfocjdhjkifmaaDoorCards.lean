/-
  DERIVED. GIVEN WITH THE SEED: THE CARDS: each row of YtpfocjdhjkifmaaDoorRows.lean that lists a variable, with what it lists TIED to the program's text (the seventh form; the later family's looks); each row that meets fmt, with fmt's text TOLD by the authors' own Lean function (tested against real Go, not proved from fmt's source: count such statements apart). THE CARD IS WHAT COUNTS. Prove the row's statement (the work); the ties are given (YtpfocjdhjkifmaaDoorTie.lean); close each card by the builder's one call (the guide's Derived/Test/ToyasCard.lean, 'card_holds'). Laid BY PROGRAM, IN A SANDBOX (cutbox-door.mjs). By AI agents, Wed Nov 11 2026. No macro, syntax, notation, axiom, sorry.
-/
import Derived.Test.YtpfocjdhjkifmaaDoorRows
import GoSem.ClaimSeven
namespace Go.Proofs.YtpfocjdhjkifmaaDoor
namespace Rows

/-- THE TIED CARD OF 'laws.FnExactFormatInt'. -/
def fnExactFormatIntCard : Claim7 := { stood := { row := fnExactFormatIntRow, standIns := [], harness := (true, "7fe30a026330469d271d49c4b7ac06514fcc7ec554aad1abb895dbd86d94859d"), looks := true }, kinds := [], alts := [], laidByText := true, laidKinds := [.data, .data, .data], laidTests := true, laidLooks := .later }
def FnExactFormatIntCardSaid : Prop := Claim7.holds Tryd.pinned (.plain (OpenSpec.ofChange fnExactFormatIntSpec)) fnExactFormatIntCard

/-- THE TIED CARD OF 'laws.FnExactCodeName'. -/
def fnExactCodeNameCard : Claim7 := { stood := { row := fnExactCodeNameRow, standIns := [], harness := (true, "7fe30a026330469d271d49c4b7ac06514fcc7ec554aad1abb895dbd86d94859d"), looks := true }, kinds := [], alts := [], laidByText := true, laidKinds := [.data, .pinned], laidTests := true, laidLooks := .later }
def FnExactCodeNameCardSaid : Prop := Claim7.holds Tryd.pinned (.plain (OpenSpec.ofChange fnExactCodeNameSpec)) fnExactCodeNameCard

/-- THE TIED CARD OF 'laws.FnExactCodeOf'. -/
def fnExactCodeOfCard : Claim7 := { stood := { row := fnExactCodeOfRow, standIns := [], harness := (true, "7fe30a026330469d271d49c4b7ac06514fcc7ec554aad1abb895dbd86d94859d"), looks := true }, kinds := [], alts := [], laidByText := true, laidKinds := [.data, .pinned], laidTests := true, laidLooks := .later }
def FnExactCodeOfCardSaid : Prop := Claim7.holds Tryd.pinned (.plain (OpenSpec.ofChange fnExactCodeOfSpec)) fnExactCodeOfCard

/-- THE TIED CARD OF 'laws.FnExactFormatEvents'. -/
def fnExactFormatEventsCard : Claim7 := { stood := { row := fnExactFormatEventsRow, standIns := [], harness := (true, "7fe30a026330469d271d49c4b7ac06514fcc7ec554aad1abb895dbd86d94859d"), looks := true }, kinds := [], alts := [], laidByText := true, laidKinds := [.data, .data, .data], laidTests := true, laidLooks := .later }
def FnExactFormatEventsCardSaid : Prop := Claim7.holds Tryd.pinned (.plain (OpenSpec.ofChange fnExactFormatEventsSpec)) fnExactFormatEventsCard

/-- THE TIED CARD OF 'laws.FnExactParseInt'. -/
def fnExactParseIntCard : Claim7 := { stood := { row := fnExactParseIntRow, standIns := [], harness := (true, "7fe30a026330469d271d49c4b7ac06514fcc7ec554aad1abb895dbd86d94859d"), looks := true }, kinds := [], alts := [], laidByText := true, laidKinds := [.data, .data, .data, .sentinel, .sentinel], laidTests := true, laidLooks := .later }
def FnExactParseIntCardSaid : Prop := Claim7.holds Tryd.pinned (.plain (OpenSpec.ofChange fnExactParseIntSpec)) fnExactParseIntCard

/-- THE TIED CARD OF 'laws.FnExactFormatAction'. -/
def fnExactFormatActionCard : Claim7 := { stood := { row := fnExactFormatActionRow, standIns := [], harness := (true, "7fe30a026330469d271d49c4b7ac06514fcc7ec554aad1abb895dbd86d94859d"), looks := true }, kinds := [], alts := [], laidByText := true, laidKinds := [.data, .data, .data, .data, .pinned], laidTests := true, laidLooks := .later }
def FnExactFormatActionCardSaid : Prop := Claim7.holds Tryd.pinned (.plain (OpenSpec.ofChange fnExactFormatActionSpec)) fnExactFormatActionCard

/-- THE TIED CARD OF 'laws.FnEventTexts'. -/
def fnEventTextsCard : Claim7 := { stood := { row := fnEventTextsRow, standIns := [], harness := (true, "7fe30a026330469d271d49c4b7ac06514fcc7ec554aad1abb895dbd86d94859d"), looks := true }, kinds := [], alts := [], laidByText := true, laidKinds := [.data, .data, .data, .sentinel, .sentinel], laidTests := true, laidLooks := .later }
def FnEventTextsCardSaid : Prop := Claim7.holds Tryd.pinned (.plain (OpenSpec.ofChange fnEventTextsSpec)) fnEventTextsCard

/-- THE TIED CARD OF 'laws.FnExactParseEvents'. -/
def fnExactParseEventsCard : Claim7 := { stood := { row := fnExactParseEventsRow, standIns := [], harness := (true, "7fe30a026330469d271d49c4b7ac06514fcc7ec554aad1abb895dbd86d94859d"), looks := true }, kinds := [], alts := [], laidByText := true, laidKinds := [.data, .data, .data, .sentinel, .sentinel], laidTests := true, laidLooks := .later }
def FnExactParseEventsCardSaid : Prop := Claim7.holds Tryd.pinned (.plain (OpenSpec.ofChange fnExactParseEventsSpec)) fnExactParseEventsCard

/-- THE TIED CARD OF 'laws.FnExactParseAction'. -/
def fnExactParseActionCard : Claim7 := { stood := { row := fnExactParseActionRow, standIns := [], harness := (true, "7fe30a026330469d271d49c4b7ac06514fcc7ec554aad1abb895dbd86d94859d"), looks := true }, kinds := [], alts := [], laidByText := true, laidKinds := [.data, .data, .data, .data, .sentinel, .sentinel, .pinned], laidTests := true, laidLooks := .later }
def FnExactParseActionCardSaid : Prop := Claim7.holds Tryd.pinned (.plain (OpenSpec.ofChange fnExactParseActionSpec)) fnExactParseActionCard

/-- THE SECOND FORM's CARD OF 'laws.FnExactFormatInt'. -/
def fnExactFormatIntUptoCard : Claim7 := { stood := { row := fnExactFormatIntUptoRow, standIns := [], harness := (true, "7fe30a026330469d271d49c4b7ac06514fcc7ec554aad1abb895dbd86d94859d"), looks := true }, kinds := [], alts := [], laidByText := true, laidKinds := [.data, .data, .data], laidTests := true, laidLooks := .later }
def FnExactFormatIntUptoCardSaid : Prop := Claim7.holds Tryd.pinned (.plain (OpenSpec.upto fnExactFormatIntSpec)) fnExactFormatIntUptoCard

/-- THE SECOND FORM's CARD OF 'laws.FnExactCodeName'. -/
def fnExactCodeNameUptoCard : Claim7 := { stood := { row := fnExactCodeNameUptoRow, standIns := [], harness := (true, "7fe30a026330469d271d49c4b7ac06514fcc7ec554aad1abb895dbd86d94859d"), looks := true }, kinds := [], alts := [], laidByText := true, laidKinds := [.data, .pinned], laidTests := true, laidLooks := .later }
def FnExactCodeNameUptoCardSaid : Prop := Claim7.holds Tryd.pinned (.plain (OpenSpec.upto fnExactCodeNameSpec)) fnExactCodeNameUptoCard

/-- THE SECOND FORM's CARD OF 'laws.FnExactCodeOf'. -/
def fnExactCodeOfUptoCard : Claim7 := { stood := { row := fnExactCodeOfUptoRow, standIns := [], harness := (true, "7fe30a026330469d271d49c4b7ac06514fcc7ec554aad1abb895dbd86d94859d"), looks := true }, kinds := [], alts := [], laidByText := true, laidKinds := [.data, .pinned], laidTests := true, laidLooks := .later }
def FnExactCodeOfUptoCardSaid : Prop := Claim7.holds Tryd.pinned (.plain (OpenSpec.upto fnExactCodeOfSpec)) fnExactCodeOfUptoCard

/-- THE SECOND FORM's CARD OF 'laws.FnExactFormatEvents'. -/
def fnExactFormatEventsUptoCard : Claim7 := { stood := { row := fnExactFormatEventsUptoRow, standIns := [], harness := (true, "7fe30a026330469d271d49c4b7ac06514fcc7ec554aad1abb895dbd86d94859d"), looks := true }, kinds := [], alts := [], laidByText := true, laidKinds := [.data, .data, .data], laidTests := true, laidLooks := .later }
def FnExactFormatEventsUptoCardSaid : Prop := Claim7.holds Tryd.pinned (.plain (OpenSpec.upto fnExactFormatEventsSpec)) fnExactFormatEventsUptoCard

/-- THE SECOND FORM's CARD OF 'laws.FnExactParseInt'. -/
def fnExactParseIntUptoCard : Claim7 := { stood := { row := fnExactParseIntUptoRow, standIns := [], harness := (true, "7fe30a026330469d271d49c4b7ac06514fcc7ec554aad1abb895dbd86d94859d"), looks := true }, kinds := [], alts := [], laidByText := true, laidKinds := [.data, .data, .data, .sentinel, .sentinel], laidTests := true, laidLooks := .later }
def FnExactParseIntUptoCardSaid : Prop := Claim7.holds Tryd.pinned (.plain (OpenSpec.upto fnExactParseIntSpec)) fnExactParseIntUptoCard

/-- THE SECOND FORM's CARD OF 'laws.FnExactFormatAction'. -/
def fnExactFormatActionUptoCard : Claim7 := { stood := { row := fnExactFormatActionUptoRow, standIns := [], harness := (true, "7fe30a026330469d271d49c4b7ac06514fcc7ec554aad1abb895dbd86d94859d"), looks := true }, kinds := [], alts := [], laidByText := true, laidKinds := [.data, .data, .data, .data, .pinned], laidTests := true, laidLooks := .later }
def FnExactFormatActionUptoCardSaid : Prop := Claim7.holds Tryd.pinned (.plain (OpenSpec.upto fnExactFormatActionSpec)) fnExactFormatActionUptoCard

/-- THE SECOND FORM's CARD OF 'laws.FnEventTexts'. -/
def fnEventTextsUptoCard : Claim7 := { stood := { row := fnEventTextsUptoRow, standIns := [], harness := (true, "7fe30a026330469d271d49c4b7ac06514fcc7ec554aad1abb895dbd86d94859d"), looks := true }, kinds := [], alts := [], laidByText := true, laidKinds := [.data, .data, .data, .sentinel, .sentinel], laidTests := true, laidLooks := .later }
def FnEventTextsUptoCardSaid : Prop := Claim7.holds Tryd.pinned (.plain (OpenSpec.upto fnEventTextsSpec)) fnEventTextsUptoCard

/-- THE SECOND FORM's CARD OF 'laws.FnExactParseEvents'. -/
def fnExactParseEventsUptoCard : Claim7 := { stood := { row := fnExactParseEventsUptoRow, standIns := [], harness := (true, "7fe30a026330469d271d49c4b7ac06514fcc7ec554aad1abb895dbd86d94859d"), looks := true }, kinds := [], alts := [], laidByText := true, laidKinds := [.data, .data, .data, .sentinel, .sentinel], laidTests := true, laidLooks := .later }
def FnExactParseEventsUptoCardSaid : Prop := Claim7.holds Tryd.pinned (.plain (OpenSpec.upto fnExactParseEventsSpec)) fnExactParseEventsUptoCard

/-- THE SECOND FORM's CARD OF 'laws.FnExactParseAction'. -/
def fnExactParseActionUptoCard : Claim7 := { stood := { row := fnExactParseActionUptoRow, standIns := [], harness := (true, "7fe30a026330469d271d49c4b7ac06514fcc7ec554aad1abb895dbd86d94859d"), looks := true }, kinds := [], alts := [], laidByText := true, laidKinds := [.data, .data, .data, .data, .sentinel, .sentinel, .pinned], laidTests := true, laidLooks := .later }
def FnExactParseActionUptoCardSaid : Prop := Claim7.holds Tryd.pinned (.plain (OpenSpec.upto fnExactParseActionSpec)) fnExactParseActionUptoCard
end Rows
end Go.Proofs.YtpfocjdhjkifmaaDoor
