/-
  DERIVED. GIVEN WITH THE SEED: THE CARDS: each row of YtpkmgdpnimecfabDoorRows.lean that lists a variable, with what it lists TIED to the program's text (the seventh form; the later family's looks); each row that meets fmt, with fmt's text TOLD by the authors' own Lean function (tested against real Go, not proved from fmt's source: count such statements apart). THE CARD IS WHAT COUNTS. Prove the row's statement (the work); the ties are given (YtpkmgdpnimecfabDoorTie.lean); close each card by the builder's one call (the guide's Derived/Test/ToyasCard.lean, 'card_holds'). Laid BY PROGRAM, IN A SANDBOX (cutbox-door.mjs). By AI agents, Wed Nov 11 2026. No macro, syntax, notation, axiom, sorry.
-/
import Derived.Test.YtpkmgdpnimecfabDoorRows
import GoSem.ClaimSeven
namespace Go.Proofs.YtpkmgdpnimecfabDoor
namespace Rows

/-- THE TIED CARD OF 'lockagelaw10.CheckVoters'. -/
def checkVotersCard : Claim7 := { stood := { row := checkVotersRow, standIns := [], harness := (true, "cfe63c5658b6bd1a0fc7e38934e65126801f8a0fa6b3d3db120216d21a504323"), looks := true }, kinds := [], alts := [], laidByText := true, laidKinds := [.handle], laidTests := true, laidLooks := .later }
def CheckVotersCardSaid : Prop := Claim7.holds Tryd.pinned (.plain (OpenSpec.ofChange checkVotersSpec)) checkVotersCard

/-- THE TIED CARD OF 'lockagelaw01.LabelTells'. -/
def labelTellsCard : Claim7 := { stood := { row := labelTellsRow, standIns := [], harness := (true, "cfe63c5658b6bd1a0fc7e38934e65126801f8a0fa6b3d3db120216d21a504323"), looks := true }, kinds := [], alts := [], laidByText := true, laidKinds := [.data, .data, .data, .sentinel, .sentinel], laidTests := true, laidLooks := .later }
def LabelTellsCardSaid : Prop := Claim7.holds Tryd.pinned (.plain (OpenSpec.ofChange labelTellsSpec)) labelTellsCard

/-- THE TIED CARD OF 'lockagelaw01.LabelReads'. -/
def labelReadsCard : Claim7 := { stood := { row := labelReadsRow, standIns := [], harness := (true, "cfe63c5658b6bd1a0fc7e38934e65126801f8a0fa6b3d3db120216d21a504323"), looks := true }, kinds := [], alts := [], laidByText := true, laidKinds := [.data, .data, .data, .sentinel, .sentinel], laidTests := true, laidLooks := .later }
def LabelReadsCardSaid : Prop := Claim7.holds Tryd.pinned (.plain (OpenSpec.ofChange labelReadsSpec)) labelReadsCard

/-- THE TIED CARD OF 'lockagelaw01.LabelLattice'. -/
def labelLatticeCard : Claim7 := { stood := { row := labelLatticeRow, standIns := [], harness := (true, "cfe63c5658b6bd1a0fc7e38934e65126801f8a0fa6b3d3db120216d21a504323"), looks := true }, kinds := [], alts := [], laidByText := true, laidKinds := [.data, .data, .data, .sentinel, .sentinel], laidTests := true, laidLooks := .later }
def LabelLatticeCardSaid : Prop := Claim7.holds Tryd.pinned (.plain (OpenSpec.ofChange labelLatticeSpec)) labelLatticeCard

/-- THE TIED CARD OF 'lockagelaw01.LabelOff'. -/
def labelOffCard : Claim7 := { stood := { row := labelOffRow, standIns := [], harness := (true, "cfe63c5658b6bd1a0fc7e38934e65126801f8a0fa6b3d3db120216d21a504323"), looks := true }, kinds := [], alts := [], laidByText := true, laidKinds := [.data, .data, .data, .sentinel, .sentinel], laidTests := true, laidLooks := .later }
def LabelOffCardSaid : Prop := Claim7.holds Tryd.pinned (.plain (OpenSpec.ofChange labelOffSpec)) labelOffCard

/-- THE TIED CARD OF 'lockagelaw01.LabelTexts'. -/
def labelTextsCard : Claim7 := { stood := { row := labelTextsRow, standIns := [], harness := (true, "cfe63c5658b6bd1a0fc7e38934e65126801f8a0fa6b3d3db120216d21a504323"), looks := true }, kinds := [], alts := [], laidByText := true, laidKinds := [.data, .data, .data, .sentinel, .sentinel], laidTests := true, laidLooks := .later }
def LabelTextsCardSaid : Prop := Claim7.holds Tryd.pinned (.plain (OpenSpec.ofChange labelTextsSpec)) labelTextsCard

/-- THE TIED CARD OF 'lockagelaw06.CodecOne'. -/
def codecOneCard : Claim7 := { stood := { row := codecOneRow, standIns := [], harness := (true, "cfe63c5658b6bd1a0fc7e38934e65126801f8a0fa6b3d3db120216d21a504323"), looks := true }, kinds := [], alts := [], laidByText := true, laidKinds := [.data, .data, .data, .sentinel, .sentinel], laidTests := true, laidLooks := .later }
def CodecOneCardSaid : Prop := Claim7.holds Tryd.pinned (.plain (OpenSpec.ofChange codecOneSpec)) codecOneCard

/-- THE TIED CARD OF 'lockagelaw06.CodecStops'. -/
def codecStopsCard : Claim7 := { stood := { row := codecStopsRow, standIns := [], harness := (true, "cfe63c5658b6bd1a0fc7e38934e65126801f8a0fa6b3d3db120216d21a504323"), looks := true }, kinds := [], alts := [], laidByText := true, laidKinds := [.data, .data, .data, .sentinel, .sentinel], laidTests := true, laidLooks := .later }
def CodecStopsCardSaid : Prop := Claim7.holds Tryd.pinned (.plain (OpenSpec.ofChange codecStopsSpec)) codecStopsCard

/-- THE TIED CARD OF 'lockagelaw06.CodecReads'. -/
def codecReadsCard : Claim7 := { stood := { row := codecReadsRow, standIns := [], harness := (true, "cfe63c5658b6bd1a0fc7e38934e65126801f8a0fa6b3d3db120216d21a504323"), looks := true }, kinds := [], alts := [], laidByText := true, laidKinds := [.data, .data, .data, .sentinel, .sentinel], laidTests := true, laidLooks := .later }
def CodecReadsCardSaid : Prop := Claim7.holds Tryd.pinned (.plain (OpenSpec.ofChange codecReadsSpec)) codecReadsCard

/-- THE TIED CARD OF 'lockagelaw06.CodecBack'. -/
def codecBackCard : Claim7 := { stood := { row := codecBackRow, standIns := [], harness := (true, "cfe63c5658b6bd1a0fc7e38934e65126801f8a0fa6b3d3db120216d21a504323"), looks := true }, kinds := [], alts := [], laidByText := true, laidKinds := [.data, .data, .data, .sentinel, .sentinel], laidTests := true, laidLooks := .later }
def CodecBackCardSaid : Prop := Claim7.holds Tryd.pinned (.plain (OpenSpec.ofChange codecBackSpec)) codecBackCard

/-- THE TIED CARD OF 'lockagelaw06.CodecNil'. -/
def codecNilCard : Claim7 := { stood := { row := codecNilRow, standIns := [], harness := (true, "cfe63c5658b6bd1a0fc7e38934e65126801f8a0fa6b3d3db120216d21a504323"), looks := true }, kinds := [], alts := [], laidByText := true, laidKinds := [.data, .data, .data, .sentinel, .sentinel], laidTests := true, laidLooks := .later }
def CodecNilCardSaid : Prop := Claim7.holds Tryd.pinned (.plain (OpenSpec.ofChange codecNilSpec)) codecNilCard

/-- THE TIED CARD OF 'lockagelaw11.LeaseWrites'. -/
def leaseWritesCard : Claim7 := { stood := { row := leaseWritesRow, standIns := [], harness := (true, "cfe63c5658b6bd1a0fc7e38934e65126801f8a0fa6b3d3db120216d21a504323"), looks := true }, kinds := [], alts := [], laidByText := true, laidKinds := [.data, .data, .data, .sentinel, .sentinel], laidTests := true, laidLooks := .later }
def LeaseWritesCardSaid : Prop := Claim7.holds Tryd.pinned (.plain (OpenSpec.ofChange leaseWritesSpec)) leaseWritesCard

/-- THE SECOND FORM's CARD OF 'lockagelaw10.CheckVoters'. -/
def checkVotersUptoCard : Claim7 := { stood := { row := checkVotersUptoRow, standIns := [], harness := (true, "cfe63c5658b6bd1a0fc7e38934e65126801f8a0fa6b3d3db120216d21a504323"), looks := true }, kinds := [], alts := [], laidByText := true, laidKinds := [.handle], laidTests := true, laidLooks := .later }
def CheckVotersUptoCardSaid : Prop := Claim7.holds Tryd.pinned (.plain (OpenSpec.upto checkVotersSpec)) checkVotersUptoCard

/-- THE SECOND FORM's CARD OF 'lockagelaw01.LabelTells'. -/
def labelTellsUptoCard : Claim7 := { stood := { row := labelTellsUptoRow, standIns := [], harness := (true, "cfe63c5658b6bd1a0fc7e38934e65126801f8a0fa6b3d3db120216d21a504323"), looks := true }, kinds := [], alts := [], laidByText := true, laidKinds := [.data, .data, .data, .sentinel, .sentinel], laidTests := true, laidLooks := .later }
def LabelTellsUptoCardSaid : Prop := Claim7.holds Tryd.pinned (.plain (OpenSpec.upto labelTellsSpec)) labelTellsUptoCard

/-- THE SECOND FORM's CARD OF 'lockagelaw01.LabelReads'. -/
def labelReadsUptoCard : Claim7 := { stood := { row := labelReadsUptoRow, standIns := [], harness := (true, "cfe63c5658b6bd1a0fc7e38934e65126801f8a0fa6b3d3db120216d21a504323"), looks := true }, kinds := [], alts := [], laidByText := true, laidKinds := [.data, .data, .data, .sentinel, .sentinel], laidTests := true, laidLooks := .later }
def LabelReadsUptoCardSaid : Prop := Claim7.holds Tryd.pinned (.plain (OpenSpec.upto labelReadsSpec)) labelReadsUptoCard

/-- THE SECOND FORM's CARD OF 'lockagelaw01.LabelLattice'. -/
def labelLatticeUptoCard : Claim7 := { stood := { row := labelLatticeUptoRow, standIns := [], harness := (true, "cfe63c5658b6bd1a0fc7e38934e65126801f8a0fa6b3d3db120216d21a504323"), looks := true }, kinds := [], alts := [], laidByText := true, laidKinds := [.data, .data, .data, .sentinel, .sentinel], laidTests := true, laidLooks := .later }
def LabelLatticeUptoCardSaid : Prop := Claim7.holds Tryd.pinned (.plain (OpenSpec.upto labelLatticeSpec)) labelLatticeUptoCard

/-- THE SECOND FORM's CARD OF 'lockagelaw01.LabelOff'. -/
def labelOffUptoCard : Claim7 := { stood := { row := labelOffUptoRow, standIns := [], harness := (true, "cfe63c5658b6bd1a0fc7e38934e65126801f8a0fa6b3d3db120216d21a504323"), looks := true }, kinds := [], alts := [], laidByText := true, laidKinds := [.data, .data, .data, .sentinel, .sentinel], laidTests := true, laidLooks := .later }
def LabelOffUptoCardSaid : Prop := Claim7.holds Tryd.pinned (.plain (OpenSpec.upto labelOffSpec)) labelOffUptoCard

/-- THE SECOND FORM's CARD OF 'lockagelaw01.LabelTexts'. -/
def labelTextsUptoCard : Claim7 := { stood := { row := labelTextsUptoRow, standIns := [], harness := (true, "cfe63c5658b6bd1a0fc7e38934e65126801f8a0fa6b3d3db120216d21a504323"), looks := true }, kinds := [], alts := [], laidByText := true, laidKinds := [.data, .data, .data, .sentinel, .sentinel], laidTests := true, laidLooks := .later }
def LabelTextsUptoCardSaid : Prop := Claim7.holds Tryd.pinned (.plain (OpenSpec.upto labelTextsSpec)) labelTextsUptoCard

/-- THE SECOND FORM's CARD OF 'lockagelaw06.CodecOne'. -/
def codecOneUptoCard : Claim7 := { stood := { row := codecOneUptoRow, standIns := [], harness := (true, "cfe63c5658b6bd1a0fc7e38934e65126801f8a0fa6b3d3db120216d21a504323"), looks := true }, kinds := [], alts := [], laidByText := true, laidKinds := [.data, .data, .data, .sentinel, .sentinel], laidTests := true, laidLooks := .later }
def CodecOneUptoCardSaid : Prop := Claim7.holds Tryd.pinned (.plain (OpenSpec.upto codecOneSpec)) codecOneUptoCard

/-- THE SECOND FORM's CARD OF 'lockagelaw06.CodecStops'. -/
def codecStopsUptoCard : Claim7 := { stood := { row := codecStopsUptoRow, standIns := [], harness := (true, "cfe63c5658b6bd1a0fc7e38934e65126801f8a0fa6b3d3db120216d21a504323"), looks := true }, kinds := [], alts := [], laidByText := true, laidKinds := [.data, .data, .data, .sentinel, .sentinel], laidTests := true, laidLooks := .later }
def CodecStopsUptoCardSaid : Prop := Claim7.holds Tryd.pinned (.plain (OpenSpec.upto codecStopsSpec)) codecStopsUptoCard

/-- THE SECOND FORM's CARD OF 'lockagelaw06.CodecReads'. -/
def codecReadsUptoCard : Claim7 := { stood := { row := codecReadsUptoRow, standIns := [], harness := (true, "cfe63c5658b6bd1a0fc7e38934e65126801f8a0fa6b3d3db120216d21a504323"), looks := true }, kinds := [], alts := [], laidByText := true, laidKinds := [.data, .data, .data, .sentinel, .sentinel], laidTests := true, laidLooks := .later }
def CodecReadsUptoCardSaid : Prop := Claim7.holds Tryd.pinned (.plain (OpenSpec.upto codecReadsSpec)) codecReadsUptoCard

/-- THE SECOND FORM's CARD OF 'lockagelaw06.CodecBack'. -/
def codecBackUptoCard : Claim7 := { stood := { row := codecBackUptoRow, standIns := [], harness := (true, "cfe63c5658b6bd1a0fc7e38934e65126801f8a0fa6b3d3db120216d21a504323"), looks := true }, kinds := [], alts := [], laidByText := true, laidKinds := [.data, .data, .data, .sentinel, .sentinel], laidTests := true, laidLooks := .later }
def CodecBackUptoCardSaid : Prop := Claim7.holds Tryd.pinned (.plain (OpenSpec.upto codecBackSpec)) codecBackUptoCard

/-- THE SECOND FORM's CARD OF 'lockagelaw06.CodecNil'. -/
def codecNilUptoCard : Claim7 := { stood := { row := codecNilUptoRow, standIns := [], harness := (true, "cfe63c5658b6bd1a0fc7e38934e65126801f8a0fa6b3d3db120216d21a504323"), looks := true }, kinds := [], alts := [], laidByText := true, laidKinds := [.data, .data, .data, .sentinel, .sentinel], laidTests := true, laidLooks := .later }
def CodecNilUptoCardSaid : Prop := Claim7.holds Tryd.pinned (.plain (OpenSpec.upto codecNilSpec)) codecNilUptoCard

/-- THE SECOND FORM's CARD OF 'lockagelaw11.LeaseWrites'. -/
def leaseWritesUptoCard : Claim7 := { stood := { row := leaseWritesUptoRow, standIns := [], harness := (true, "cfe63c5658b6bd1a0fc7e38934e65126801f8a0fa6b3d3db120216d21a504323"), looks := true }, kinds := [], alts := [], laidByText := true, laidKinds := [.data, .data, .data, .sentinel, .sentinel], laidTests := true, laidLooks := .later }
def LeaseWritesUptoCardSaid : Prop := Claim7.holds Tryd.pinned (.plain (OpenSpec.upto leaseWritesSpec)) leaseWritesUptoCard
end Rows
end Go.Proofs.YtpkmgdpnimecfabDoor
