/-
  DERIVED. GIVEN WITH THE SEED: THE CARDS: each row of YtefnkoofgpmmmaaGreatDoorRows.lean that lists a variable, with what it lists TIED to the program's text (the seventh form; the later family's looks); each row that meets fmt, with fmt's text TOLD by the authors' own Lean function (tested against real Go, not proved from fmt's source: count such statements apart). THE CARD IS WHAT COUNTS. Prove the row's statement (the work); the ties are given (YtefnkoofgpmmmaaGreatDoorTie.lean); close each card by the builder's one call (the guide's Derived/Test/ToyasCard.lean, 'card_holds'). Laid BY PROGRAM, IN A SANDBOX (cutbox-door.mjs). By AI agents, Wed Nov 11 2026. No macro, syntax, notation, axiom, sorry.
-/
import Derived.Test.YtefnkoofgpmmmaaGreatDoorRows
import GoSem.ClaimSeven
namespace Go.Proofs.YtefnkoofgpmmmaaGreatDoor
namespace Rows

/-- THE TIED CARD OF 'lockagelaw07.LexerLines'. -/
def lexerLinesCard : Claim7 := { stood := { row := lexerLinesRow, standIns := [], harness := (true, "bbaf67af15e3126830d2b6bda416d78b5c0fb97af6f7a2a2fcfd1c7c2c76be43"), looks := true }, kinds := [], alts := [], laidByText := true, laidKinds := [.data, .data, .data, .data, .handle, .sentinel, .sentinel, .pinned], laidTests := true, laidLooks := .later }
def LexerLinesCardSaid : Prop := Claim7.holds Tryz.pinned (.plain (OpenSpec.ofChange lexerLinesSpec)) lexerLinesCard

/-- THE TIED CARD OF 'lockagelaw08.ManifestParses'. -/
def manifestParsesCard : Claim7 := { stood := { row := manifestParsesRow, standIns := [], harness := (true, "bbaf67af15e3126830d2b6bda416d78b5c0fb97af6f7a2a2fcfd1c7c2c76be43"), looks := true }, kinds := [], alts := [], laidByText := true, laidKinds := [.data, .data, .data, .data, .handle, .sentinel, .sentinel, .pinned], laidTests := true, laidLooks := .later }
def ManifestParsesCardSaid : Prop := Claim7.holds Tryz.pinned (.plain (OpenSpec.ofChange manifestParsesSpec)) manifestParsesCard

/-- THE TIED CARD OF 'lockagelaw08.ManifestFirst'. -/
def manifestFirstCard : Claim7 := { stood := { row := manifestFirstRow, standIns := [], harness := (true, "bbaf67af15e3126830d2b6bda416d78b5c0fb97af6f7a2a2fcfd1c7c2c76be43"), looks := true }, kinds := [], alts := [], laidByText := true, laidKinds := [.data, .data, .data, .data, .handle, .sentinel, .sentinel, .pinned], laidTests := true, laidLooks := .later }
def ManifestFirstCardSaid : Prop := Claim7.holds Tryz.pinned (.plain (OpenSpec.ofChange manifestFirstSpec)) manifestFirstCard

/-- THE TIED CARD OF 'lockagelaw08.ManifestCanon'. -/
def manifestCanonCard : Claim7 := { stood := { row := manifestCanonRow, standIns := [], harness := (true, "bbaf67af15e3126830d2b6bda416d78b5c0fb97af6f7a2a2fcfd1c7c2c76be43"), looks := true }, kinds := [], alts := [], laidByText := true, laidKinds := [.data, .data, .data, .data, .handle, .sentinel, .sentinel, .pinned], laidTests := true, laidLooks := .later }
def ManifestCanonCardSaid : Prop := Claim7.holds Tryz.pinned (.plain (OpenSpec.ofChange manifestCanonSpec)) manifestCanonCard

/-- THE TIED CARD OF 'lockagelaw08.ManifestOrder'. -/
def manifestOrderCard : Claim7 := { stood := { row := manifestOrderRow, standIns := [], harness := (true, "bbaf67af15e3126830d2b6bda416d78b5c0fb97af6f7a2a2fcfd1c7c2c76be43"), looks := true }, kinds := [], alts := [], laidByText := true, laidKinds := [.data, .data, .data, .data, .handle, .sentinel, .sentinel, .pinned], laidTests := true, laidLooks := .later }
def ManifestOrderCardSaid : Prop := Claim7.holds Tryz.pinned (.plain (OpenSpec.ofChange manifestOrderSpec)) manifestOrderCard

/-- THE TIED CARD OF 'lockagelaw14.PartReads'. -/
def partReadsCard : Claim7 := { stood := { row := partReadsRow, standIns := [], harness := (true, "bbaf67af15e3126830d2b6bda416d78b5c0fb97af6f7a2a2fcfd1c7c2c76be43"), looks := true }, kinds := [], alts := [], laidByText := true, laidKinds := [.data, .data, .data, .data, .handle, .sentinel, .sentinel, .pinned], laidTests := true, laidLooks := .later }
def PartReadsCardSaid : Prop := Claim7.holds Tryz.pinned (.plain (OpenSpec.ofChange partReadsSpec)) partReadsCard

/-- THE TIED CARD OF 'lockagelaw14.PartKeys'. -/
def partKeysCard : Claim7 := { stood := { row := partKeysRow, standIns := [], harness := (true, "bbaf67af15e3126830d2b6bda416d78b5c0fb97af6f7a2a2fcfd1c7c2c76be43"), looks := true }, kinds := [], alts := [], laidByText := true, laidKinds := [.data, .data, .data, .data, .handle, .sentinel, .sentinel, .pinned], laidTests := true, laidLooks := .later }
def PartKeysCardSaid : Prop := Claim7.holds Tryz.pinned (.plain (OpenSpec.ofChange partKeysSpec)) partKeysCard

/-- THE TIED CARD OF 'lockagelaw14.PartLets'. -/
def partLetsCard : Claim7 := { stood := { row := partLetsRow, standIns := [], harness := (true, "bbaf67af15e3126830d2b6bda416d78b5c0fb97af6f7a2a2fcfd1c7c2c76be43"), looks := true }, kinds := [], alts := [], laidByText := true, laidKinds := [.data, .data, .data, .data, .handle, .sentinel, .sentinel, .pinned], laidTests := true, laidLooks := .later }
def PartLetsCardSaid : Prop := Claim7.holds Tryz.pinned (.plain (OpenSpec.ofChange partLetsSpec)) partLetsCard

/-- THE TIED CARD OF 'lockagelaw14.PartNil'. -/
def partNilCard : Claim7 := { stood := { row := partNilRow, standIns := [], harness := (true, "bbaf67af15e3126830d2b6bda416d78b5c0fb97af6f7a2a2fcfd1c7c2c76be43"), looks := true }, kinds := [], alts := [], laidByText := true, laidKinds := [.data, .data, .data, .data, .handle, .sentinel, .sentinel, .pinned], laidTests := true, laidLooks := .later }
def PartNilCardSaid : Prop := Claim7.holds Tryz.pinned (.plain (OpenSpec.ofChange partNilSpec)) partNilCard

/-- THE SECOND FORM's CARD OF 'lockagelaw07.LexerLines'. -/
def lexerLinesUptoCard : Claim7 := { stood := { row := lexerLinesUptoRow, standIns := [], harness := (true, "bbaf67af15e3126830d2b6bda416d78b5c0fb97af6f7a2a2fcfd1c7c2c76be43"), looks := true }, kinds := [], alts := [], laidByText := true, laidKinds := [.data, .data, .data, .data, .handle, .sentinel, .sentinel, .pinned], laidTests := true, laidLooks := .later }
def LexerLinesUptoCardSaid : Prop := Claim7.holds Tryz.pinned (.plain (OpenSpec.upto lexerLinesSpec)) lexerLinesUptoCard

/-- THE SECOND FORM's CARD OF 'lockagelaw08.ManifestParses'. -/
def manifestParsesUptoCard : Claim7 := { stood := { row := manifestParsesUptoRow, standIns := [], harness := (true, "bbaf67af15e3126830d2b6bda416d78b5c0fb97af6f7a2a2fcfd1c7c2c76be43"), looks := true }, kinds := [], alts := [], laidByText := true, laidKinds := [.data, .data, .data, .data, .handle, .sentinel, .sentinel, .pinned], laidTests := true, laidLooks := .later }
def ManifestParsesUptoCardSaid : Prop := Claim7.holds Tryz.pinned (.plain (OpenSpec.upto manifestParsesSpec)) manifestParsesUptoCard

/-- THE SECOND FORM's CARD OF 'lockagelaw08.ManifestFirst'. -/
def manifestFirstUptoCard : Claim7 := { stood := { row := manifestFirstUptoRow, standIns := [], harness := (true, "bbaf67af15e3126830d2b6bda416d78b5c0fb97af6f7a2a2fcfd1c7c2c76be43"), looks := true }, kinds := [], alts := [], laidByText := true, laidKinds := [.data, .data, .data, .data, .handle, .sentinel, .sentinel, .pinned], laidTests := true, laidLooks := .later }
def ManifestFirstUptoCardSaid : Prop := Claim7.holds Tryz.pinned (.plain (OpenSpec.upto manifestFirstSpec)) manifestFirstUptoCard

/-- THE SECOND FORM's CARD OF 'lockagelaw08.ManifestCanon'. -/
def manifestCanonUptoCard : Claim7 := { stood := { row := manifestCanonUptoRow, standIns := [], harness := (true, "bbaf67af15e3126830d2b6bda416d78b5c0fb97af6f7a2a2fcfd1c7c2c76be43"), looks := true }, kinds := [], alts := [], laidByText := true, laidKinds := [.data, .data, .data, .data, .handle, .sentinel, .sentinel, .pinned], laidTests := true, laidLooks := .later }
def ManifestCanonUptoCardSaid : Prop := Claim7.holds Tryz.pinned (.plain (OpenSpec.upto manifestCanonSpec)) manifestCanonUptoCard

/-- THE SECOND FORM's CARD OF 'lockagelaw08.ManifestOrder'. -/
def manifestOrderUptoCard : Claim7 := { stood := { row := manifestOrderUptoRow, standIns := [], harness := (true, "bbaf67af15e3126830d2b6bda416d78b5c0fb97af6f7a2a2fcfd1c7c2c76be43"), looks := true }, kinds := [], alts := [], laidByText := true, laidKinds := [.data, .data, .data, .data, .handle, .sentinel, .sentinel, .pinned], laidTests := true, laidLooks := .later }
def ManifestOrderUptoCardSaid : Prop := Claim7.holds Tryz.pinned (.plain (OpenSpec.upto manifestOrderSpec)) manifestOrderUptoCard

/-- THE SECOND FORM's CARD OF 'lockagelaw14.PartReads'. -/
def partReadsUptoCard : Claim7 := { stood := { row := partReadsUptoRow, standIns := [], harness := (true, "bbaf67af15e3126830d2b6bda416d78b5c0fb97af6f7a2a2fcfd1c7c2c76be43"), looks := true }, kinds := [], alts := [], laidByText := true, laidKinds := [.data, .data, .data, .data, .handle, .sentinel, .sentinel, .pinned], laidTests := true, laidLooks := .later }
def PartReadsUptoCardSaid : Prop := Claim7.holds Tryz.pinned (.plain (OpenSpec.upto partReadsSpec)) partReadsUptoCard

/-- THE SECOND FORM's CARD OF 'lockagelaw14.PartKeys'. -/
def partKeysUptoCard : Claim7 := { stood := { row := partKeysUptoRow, standIns := [], harness := (true, "bbaf67af15e3126830d2b6bda416d78b5c0fb97af6f7a2a2fcfd1c7c2c76be43"), looks := true }, kinds := [], alts := [], laidByText := true, laidKinds := [.data, .data, .data, .data, .handle, .sentinel, .sentinel, .pinned], laidTests := true, laidLooks := .later }
def PartKeysUptoCardSaid : Prop := Claim7.holds Tryz.pinned (.plain (OpenSpec.upto partKeysSpec)) partKeysUptoCard

/-- THE SECOND FORM's CARD OF 'lockagelaw14.PartLets'. -/
def partLetsUptoCard : Claim7 := { stood := { row := partLetsUptoRow, standIns := [], harness := (true, "bbaf67af15e3126830d2b6bda416d78b5c0fb97af6f7a2a2fcfd1c7c2c76be43"), looks := true }, kinds := [], alts := [], laidByText := true, laidKinds := [.data, .data, .data, .data, .handle, .sentinel, .sentinel, .pinned], laidTests := true, laidLooks := .later }
def PartLetsUptoCardSaid : Prop := Claim7.holds Tryz.pinned (.plain (OpenSpec.upto partLetsSpec)) partLetsUptoCard

/-- THE SECOND FORM's CARD OF 'lockagelaw14.PartNil'. -/
def partNilUptoCard : Claim7 := { stood := { row := partNilUptoRow, standIns := [], harness := (true, "bbaf67af15e3126830d2b6bda416d78b5c0fb97af6f7a2a2fcfd1c7c2c76be43"), looks := true }, kinds := [], alts := [], laidByText := true, laidKinds := [.data, .data, .data, .data, .handle, .sentinel, .sentinel, .pinned], laidTests := true, laidLooks := .later }
def PartNilUptoCardSaid : Prop := Claim7.holds Tryz.pinned (.plain (OpenSpec.upto partNilSpec)) partNilUptoCard
end Rows
end Go.Proofs.YtefnkoofgpmmmaaGreatDoor
