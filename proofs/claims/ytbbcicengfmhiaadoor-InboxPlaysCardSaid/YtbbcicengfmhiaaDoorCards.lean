/-
  DERIVED. GIVEN WITH THE SEED: THE CARDS: each row of YtbbcicengfmhiaaDoorRows.lean that lists a variable, with what it lists TIED to the program's text (the seventh form; the later family's looks); each row that meets fmt, with fmt's text TOLD by the authors' own Lean function (tested against real Go, not proved from fmt's source: count such statements apart). THE CARD IS WHAT COUNTS. Prove the row's statement (the work); the ties are given (YtbbcicengfmhiaaDoorTie.lean); close each card by the builder's one call (the guide's Derived/Test/ToyasCard.lean, 'card_holds'). Laid BY PROGRAM, IN A SANDBOX (cutbox-door.mjs). By AI agents, Wed Nov 11 2026. No macro, syntax, notation, axiom, sorry.
-/
import Derived.Test.YtbbcicengfmhiaaDoorRows
import GoSem.ClaimSeven
namespace Go.Proofs.YtbbcicengfmhiaaDoor
namespace Rows

/-- THE TIED CARD OF 'lockagelaw10.CheckGates'. -/
def checkGatesCard : Claim7 := { stood := { row := checkGatesRow, standIns := [], harness := (true, "64998b5a3760839ba819a9156221ec0b6c70f2118e7e78e2ee1ccec64c559da2"), looks := true }, kinds := [], alts := [], laidByText := true, laidKinds := [.handle], laidTests := true, laidLooks := .later }
def CheckGatesCardSaid : Prop := Claim7.holds Tryd.pinned (.plain (OpenSpec.ofChange checkGatesSpec)) checkGatesCard

/-- THE TIED CARD OF 'lockagelaw10.CheckVoters'. -/
def checkVotersCard : Claim7 := { stood := { row := checkVotersRow, standIns := [], harness := (true, "64998b5a3760839ba819a9156221ec0b6c70f2118e7e78e2ee1ccec64c559da2"), looks := true }, kinds := [], alts := [], laidByText := true, laidKinds := [.handle], laidTests := true, laidLooks := .later }
def CheckVotersCardSaid : Prop := Claim7.holds Tryd.pinned (.plain (OpenSpec.ofChange checkVotersSpec)) checkVotersCard

/-- THE TIED CARD OF 'lockagelaw12.GateWrites'. -/
def gateWritesCard : Claim7 := { stood := { row := gateWritesRow, standIns := [], harness := (true, "64998b5a3760839ba819a9156221ec0b6c70f2118e7e78e2ee1ccec64c559da2"), looks := true }, kinds := [], alts := [], laidByText := true, laidKinds := [.data, .data, .data, .sentinel, .sentinel], laidTests := true, laidLooks := .later }
def GateWritesCardSaid : Prop := Claim7.holds Tryd.pinned (.plain (OpenSpec.ofChange gateWritesSpec)) gateWritesCard

/-- THE TIED CARD OF 'lockagelaw15.InboxPlays'. -/
def inboxPlaysCard : Claim7 := { stood := { row := inboxPlaysRow, standIns := [], harness := (true, "64998b5a3760839ba819a9156221ec0b6c70f2118e7e78e2ee1ccec64c559da2"), looks := true }, kinds := [], alts := [], laidByText := true, laidKinds := [.data, .data, .data, .sentinel, .sentinel], laidTests := true, laidLooks := .later }
def InboxPlaysCardSaid : Prop := Claim7.holds Tryd.pinned (.plain (OpenSpec.ofChange inboxPlaysSpec)) inboxPlaysCard

/-- THE TIED CARD OF 'lockagelaw17.ClockEnds'. -/
def clockEndsCard : Claim7 := { stood := { row := clockEndsRow, standIns := [], harness := (true, "64998b5a3760839ba819a9156221ec0b6c70f2118e7e78e2ee1ccec64c559da2"), looks := true }, kinds := [], alts := [], laidByText := true, laidKinds := [.data, .data, .data, .data, .sentinel, .sentinel, .pinned], laidTests := true, laidLooks := .later }
def ClockEndsCardSaid : Prop := Claim7.holds Tryd.pinned (.plain (OpenSpec.ofChange clockEndsSpec)) clockEndsCard

/-- THE TIED CARD OF 'lockagelaw17.ClockNil'. -/
def clockNilCard : Claim7 := { stood := { row := clockNilRow, standIns := [], harness := (true, "64998b5a3760839ba819a9156221ec0b6c70f2118e7e78e2ee1ccec64c559da2"), looks := true }, kinds := [], alts := [], laidByText := true, laidKinds := [.data, .data, .data, .data, .sentinel, .sentinel, .pinned], laidTests := true, laidLooks := .later }
def ClockNilCardSaid : Prop := Claim7.holds Tryd.pinned (.plain (OpenSpec.ofChange clockNilSpec)) clockNilCard

/-- THE TIED CARD OF 'lockagelaw17.ClockPlays'. -/
def clockPlaysCard : Claim7 := { stood := { row := clockPlaysRow, standIns := [], harness := (true, "64998b5a3760839ba819a9156221ec0b6c70f2118e7e78e2ee1ccec64c559da2"), looks := true }, kinds := [], alts := [], laidByText := true, laidKinds := [.data, .data, .data, .data, .sentinel, .sentinel, .pinned], laidTests := true, laidLooks := .later }
def ClockPlaysCardSaid : Prop := Claim7.holds Tryd.pinned (.plain (OpenSpec.ofChange clockPlaysSpec)) clockPlaysCard

/-- THE SECOND FORM's CARD OF 'lockagelaw10.CheckGates'. -/
def checkGatesUptoCard : Claim7 := { stood := { row := checkGatesUptoRow, standIns := [], harness := (true, "64998b5a3760839ba819a9156221ec0b6c70f2118e7e78e2ee1ccec64c559da2"), looks := true }, kinds := [], alts := [], laidByText := true, laidKinds := [.handle], laidTests := true, laidLooks := .later }
def CheckGatesUptoCardSaid : Prop := Claim7.holds Tryd.pinned (.plain (OpenSpec.upto checkGatesSpec)) checkGatesUptoCard

/-- THE SECOND FORM's CARD OF 'lockagelaw10.CheckVoters'. -/
def checkVotersUptoCard : Claim7 := { stood := { row := checkVotersUptoRow, standIns := [], harness := (true, "64998b5a3760839ba819a9156221ec0b6c70f2118e7e78e2ee1ccec64c559da2"), looks := true }, kinds := [], alts := [], laidByText := true, laidKinds := [.handle], laidTests := true, laidLooks := .later }
def CheckVotersUptoCardSaid : Prop := Claim7.holds Tryd.pinned (.plain (OpenSpec.upto checkVotersSpec)) checkVotersUptoCard

/-- THE SECOND FORM's CARD OF 'lockagelaw12.GateWrites'. -/
def gateWritesUptoCard : Claim7 := { stood := { row := gateWritesUptoRow, standIns := [], harness := (true, "64998b5a3760839ba819a9156221ec0b6c70f2118e7e78e2ee1ccec64c559da2"), looks := true }, kinds := [], alts := [], laidByText := true, laidKinds := [.data, .data, .data, .sentinel, .sentinel], laidTests := true, laidLooks := .later }
def GateWritesUptoCardSaid : Prop := Claim7.holds Tryd.pinned (.plain (OpenSpec.upto gateWritesSpec)) gateWritesUptoCard

/-- THE SECOND FORM's CARD OF 'lockagelaw15.InboxPlays'. -/
def inboxPlaysUptoCard : Claim7 := { stood := { row := inboxPlaysUptoRow, standIns := [], harness := (true, "64998b5a3760839ba819a9156221ec0b6c70f2118e7e78e2ee1ccec64c559da2"), looks := true }, kinds := [], alts := [], laidByText := true, laidKinds := [.data, .data, .data, .sentinel, .sentinel], laidTests := true, laidLooks := .later }
def InboxPlaysUptoCardSaid : Prop := Claim7.holds Tryd.pinned (.plain (OpenSpec.upto inboxPlaysSpec)) inboxPlaysUptoCard

/-- THE SECOND FORM's CARD OF 'lockagelaw17.ClockEnds'. -/
def clockEndsUptoCard : Claim7 := { stood := { row := clockEndsUptoRow, standIns := [], harness := (true, "64998b5a3760839ba819a9156221ec0b6c70f2118e7e78e2ee1ccec64c559da2"), looks := true }, kinds := [], alts := [], laidByText := true, laidKinds := [.data, .data, .data, .data, .sentinel, .sentinel, .pinned], laidTests := true, laidLooks := .later }
def ClockEndsUptoCardSaid : Prop := Claim7.holds Tryd.pinned (.plain (OpenSpec.upto clockEndsSpec)) clockEndsUptoCard

/-- THE SECOND FORM's CARD OF 'lockagelaw17.ClockNil'. -/
def clockNilUptoCard : Claim7 := { stood := { row := clockNilUptoRow, standIns := [], harness := (true, "64998b5a3760839ba819a9156221ec0b6c70f2118e7e78e2ee1ccec64c559da2"), looks := true }, kinds := [], alts := [], laidByText := true, laidKinds := [.data, .data, .data, .data, .sentinel, .sentinel, .pinned], laidTests := true, laidLooks := .later }
def ClockNilUptoCardSaid : Prop := Claim7.holds Tryd.pinned (.plain (OpenSpec.upto clockNilSpec)) clockNilUptoCard

/-- THE SECOND FORM's CARD OF 'lockagelaw17.ClockPlays'. -/
def clockPlaysUptoCard : Claim7 := { stood := { row := clockPlaysUptoRow, standIns := [], harness := (true, "64998b5a3760839ba819a9156221ec0b6c70f2118e7e78e2ee1ccec64c559da2"), looks := true }, kinds := [], alts := [], laidByText := true, laidKinds := [.data, .data, .data, .data, .sentinel, .sentinel, .pinned], laidTests := true, laidLooks := .later }
def ClockPlaysUptoCardSaid : Prop := Claim7.holds Tryd.pinned (.plain (OpenSpec.upto clockPlaysSpec)) clockPlaysUptoCard
end Rows
end Go.Proofs.YtbbcicengfmhiaaDoor
