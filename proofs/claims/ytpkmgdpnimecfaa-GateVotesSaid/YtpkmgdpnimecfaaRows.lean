/-
  No cell of these rows narrows 'for every input' (looked for: loops, veiled, ifaces, maps, wideKeys, modest, calm, conditions, laid).
  DERIVED. THE GIVEN ROWS OF THIS SEAT. 11 by the template 'for every input the law returns true; each argument reads behind the call as it read before'; 0 by the template 'total and deterministic' (their statements: YtpkmgdpnimecfaaTotals.lean).
  GIVEN WITH THE SEED: the statements are not yours to turn. If you find one false, say at which input.
  Laid BY PROGRAM, IN A SANDBOX (cutbox-rows.mjs): the forced cells as the released guide's own fill.sh prints them over the translation f63f6406760d4866… (all of the seat's roots in one cut). By AI agents, Wed Nov 11 2026. No macro, syntax, notation, axiom, sorry.
-/
import Derived.Test.YtpkmgdpnimecfaaChecked
import GoSem.Claim
import GoSem.ClaimJoined
import GoSem.ClaimMapViews
import Derived.JoinedTies
import Derived.KernelRfl
namespace Go.Proofs.Ytpkmgdpnimecfaa
/- THE CELL 'sum', in the pinned program and in every row, IS THE sha256 OF THE DUMP (.gsa) THAT YtpkmgdpnimecfaaProg.lean LOADS. Nothing in Lean hashes anything: it is a label: what it is worth is what the hold of that sum in a sandbox is worth. -/
noncomputable def Try.pinned : Pinned := { name := "ytpkmgdpnimecfaa", sum := "f63f6406760d486660378a86b58293e06e67121ea2f3054499dc3ede726848fa", checked := Try.checked }
namespace Rows
def none {H : Type} : Left H := { results := [], args := [] }

/-- 'lockagelaw18.SlotsTurn': WHATEVER THE INPUT: true; the input reads as it did. -/
def slotsTurnSpec : ChangeSpec := { name := "slotsTurn", fn := fun _ => fun
  | [d1, d2] => { results := [.lit (.bool true)], args := [d1, d2] }
  | _ => none }
def slotsTurnRow : OpenClaim := { program := "ytpkmgdpnimecfaa", sum := "f63f6406760d486660378a86b58293e06e67121ea2f3054499dc3ede726848fa", func := "lockage/lockagelaw18.SlotsTurn", spec := "slotsTurn", apart := false }
def SlotsTurnSaid : Prop := slotsTurnRow.holds Try.pinned (OpenSpec.ofChange slotsTurnSpec)

/-- ITS FALSE NEIGHBOUR: 'it returns false'. Refute it at one input. -/
def slotsTurnWrong : ChangeSpec := { name := "slotsTurn", fn := fun _ => fun
  | [d1, d2] => { results := [.lit (.bool false)], args := [d1, d2] }
  | _ => none }
def SlotsTurnWrongFalsely : Prop := slotsTurnRow.holds Try.pinned (OpenSpec.ofChange slotsTurnWrong)

/-- 'lockagelaw11.LeaseSettles': WHATEVER THE INPUT: true; the input reads as it did. -/
def leaseSettlesSpec : ChangeSpec := { name := "leaseSettles", fn := fun _ => fun
  | [d1, d2, d3, d4] => { results := [.lit (.bool true)], args := [d1, d2, d3, d4] }
  | _ => none }
def leaseSettlesRow : OpenClaim := { program := "ytpkmgdpnimecfaa", sum := "f63f6406760d486660378a86b58293e06e67121ea2f3054499dc3ede726848fa", func := "lockage/lockagelaw11.LeaseSettles", spec := "leaseSettles", apart := false }
def LeaseSettlesSaid : Prop := leaseSettlesRow.holds Try.pinned (OpenSpec.ofChange leaseSettlesSpec)

/-- ITS FALSE NEIGHBOUR: 'it returns false'. Refute it at one input. -/
def leaseSettlesWrong : ChangeSpec := { name := "leaseSettles", fn := fun _ => fun
  | [d1, d2, d3, d4] => { results := [.lit (.bool false)], args := [d1, d2, d3, d4] }
  | _ => none }
def LeaseSettlesWrongFalsely : Prop := leaseSettlesRow.holds Try.pinned (OpenSpec.ofChange leaseSettlesWrong)

/-- 'lockagelaw11.LeaseTries': WHATEVER THE INPUT: true; the input reads as it did. -/
def leaseTriesSpec : ChangeSpec := { name := "leaseTries", fn := fun _ => fun
  | [d1, d2] => { results := [.lit (.bool true)], args := [d1, d2] }
  | _ => none }
def leaseTriesRow : OpenClaim := { program := "ytpkmgdpnimecfaa", sum := "f63f6406760d486660378a86b58293e06e67121ea2f3054499dc3ede726848fa", func := "lockage/lockagelaw11.LeaseTries", spec := "leaseTries", apart := false }
def LeaseTriesSaid : Prop := leaseTriesRow.holds Try.pinned (OpenSpec.ofChange leaseTriesSpec)

/-- ITS FALSE NEIGHBOUR: 'it returns false'. Refute it at one input. -/
def leaseTriesWrong : ChangeSpec := { name := "leaseTries", fn := fun _ => fun
  | [d1, d2] => { results := [.lit (.bool false)], args := [d1, d2] }
  | _ => none }
def LeaseTriesWrongFalsely : Prop := leaseTriesRow.holds Try.pinned (OpenSpec.ofChange leaseTriesWrong)

/-- 'lockagelaw11.LeaseHolds': WHATEVER THE INPUT: true; the input reads as it did. -/
def leaseHoldsSpec : ChangeSpec := { name := "leaseHolds", fn := fun _ => fun
  | [d1, d2, d3, d4, d5] => { results := [.lit (.bool true)], args := [d1, d2, d3, d4, d5] }
  | _ => none }
def leaseHoldsRow : OpenClaim := { program := "ytpkmgdpnimecfaa", sum := "f63f6406760d486660378a86b58293e06e67121ea2f3054499dc3ede726848fa", func := "lockage/lockagelaw11.LeaseHolds", spec := "leaseHolds", apart := false }
def LeaseHoldsSaid : Prop := leaseHoldsRow.holds Try.pinned (OpenSpec.ofChange leaseHoldsSpec)

/-- ITS FALSE NEIGHBOUR: 'it returns false'. Refute it at one input. -/
def leaseHoldsWrong : ChangeSpec := { name := "leaseHolds", fn := fun _ => fun
  | [d1, d2, d3, d4, d5] => { results := [.lit (.bool false)], args := [d1, d2, d3, d4, d5] }
  | _ => none }
def LeaseHoldsWrongFalsely : Prop := leaseHoldsRow.holds Try.pinned (OpenSpec.ofChange leaseHoldsWrong)

/-- 'lockagelaw02.RosterTells': WHATEVER THE INPUT: true; the input reads as it did. -/
def rosterTellsSpec : ChangeSpec := { name := "rosterTells", fn := fun _ => fun
  | [d1, d2, d3, d4, d5] => { results := [.lit (.bool true)], args := [d1, d2, d3, d4, d5] }
  | _ => none }
def rosterTellsRow : OpenClaim := { program := "ytpkmgdpnimecfaa", sum := "f63f6406760d486660378a86b58293e06e67121ea2f3054499dc3ede726848fa", func := "lockage/lockagelaw02.RosterTells", spec := "rosterTells", unfollowed := true, recurses := true, apart := false }
def RosterTellsSaid : Prop := rosterTellsRow.holds Try.pinned (OpenSpec.ofChange rosterTellsSpec)

/-- ITS FALSE NEIGHBOUR: 'it returns false'. Refute it at one input. -/
def rosterTellsWrong : ChangeSpec := { name := "rosterTells", fn := fun _ => fun
  | [d1, d2, d3, d4, d5] => { results := [.lit (.bool false)], args := [d1, d2, d3, d4, d5] }
  | _ => none }
def RosterTellsWrongFalsely : Prop := rosterTellsRow.holds Try.pinned (OpenSpec.ofChange rosterTellsWrong)

/-- 'lockagelaw02.RosterFlows': WHATEVER THE INPUT: true; the input reads as it did. -/
def rosterFlowsSpec : ChangeSpec := { name := "rosterFlows", fn := fun _ => fun
  | [d1, d2, d3, d4, d5] => { results := [.lit (.bool true)], args := [d1, d2, d3, d4, d5] }
  | _ => none }
def rosterFlowsRow : OpenClaim := { program := "ytpkmgdpnimecfaa", sum := "f63f6406760d486660378a86b58293e06e67121ea2f3054499dc3ede726848fa", func := "lockage/lockagelaw02.RosterFlows", spec := "rosterFlows", unfollowed := true, recurses := true, apart := false }
def RosterFlowsSaid : Prop := rosterFlowsRow.holds Try.pinned (OpenSpec.ofChange rosterFlowsSpec)

/-- ITS FALSE NEIGHBOUR: 'it returns false'. Refute it at one input. -/
def rosterFlowsWrong : ChangeSpec := { name := "rosterFlows", fn := fun _ => fun
  | [d1, d2, d3, d4, d5] => { results := [.lit (.bool false)], args := [d1, d2, d3, d4, d5] }
  | _ => none }
def RosterFlowsWrongFalsely : Prop := rosterFlowsRow.holds Try.pinned (OpenSpec.ofChange rosterFlowsWrong)

/-- 'lockagelaw02.RosterNil': WHATEVER THE INPUT: true; the input reads as it did. -/
def rosterNilSpec : ChangeSpec := { name := "rosterNil", fn := fun _ => fun
  | [d1, d2, d3] => { results := [.lit (.bool true)], args := [d1, d2, d3] }
  | _ => none }
def rosterNilRow : OpenClaim := { program := "ytpkmgdpnimecfaa", sum := "f63f6406760d486660378a86b58293e06e67121ea2f3054499dc3ede726848fa", func := "lockage/lockagelaw02.RosterNil", spec := "rosterNil", unfollowed := true, recurses := true, apart := false }
def RosterNilSaid : Prop := rosterNilRow.holds Try.pinned (OpenSpec.ofChange rosterNilSpec)

/-- ITS FALSE NEIGHBOUR: 'it returns false'. Refute it at one input. -/
def rosterNilWrong : ChangeSpec := { name := "rosterNil", fn := fun _ => fun
  | [d1, d2, d3] => { results := [.lit (.bool false)], args := [d1, d2, d3] }
  | _ => none }
def RosterNilWrongFalsely : Prop := rosterNilRow.holds Try.pinned (OpenSpec.ofChange rosterNilWrong)

/-- 'lockagelaw02.RosterBelow': WHATEVER THE INPUT: true; the input reads as it did. -/
def rosterBelowSpec : ChangeSpec := { name := "rosterBelow", fn := fun _ => fun
  | [d1, d2, d3, d4] => { results := [.lit (.bool true)], args := [d1, d2, d3, d4] }
  | _ => none }
def rosterBelowRow : OpenClaim := { program := "ytpkmgdpnimecfaa", sum := "f63f6406760d486660378a86b58293e06e67121ea2f3054499dc3ede726848fa", func := "lockage/lockagelaw02.RosterBelow", spec := "rosterBelow", unfollowed := true, recurses := true, apart := false }
def RosterBelowSaid : Prop := rosterBelowRow.holds Try.pinned (OpenSpec.ofChange rosterBelowSpec)

/-- ITS FALSE NEIGHBOUR: 'it returns false'. Refute it at one input. -/
def rosterBelowWrong : ChangeSpec := { name := "rosterBelow", fn := fun _ => fun
  | [d1, d2, d3, d4] => { results := [.lit (.bool false)], args := [d1, d2, d3, d4] }
  | _ => none }
def RosterBelowWrongFalsely : Prop := rosterBelowRow.holds Try.pinned (OpenSpec.ofChange rosterBelowWrong)

/-- 'lockagelaw12.GateVotes': WHATEVER THE INPUT: true; the input reads as it did. -/
def gateVotesSpec : ChangeSpec := { name := "gateVotes", fn := fun _ => fun
  | [d1, d2] => { results := [.lit (.bool true)], args := [d1, d2] }
  | _ => none }
def gateVotesRow : OpenClaim := { program := "ytpkmgdpnimecfaa", sum := "f63f6406760d486660378a86b58293e06e67121ea2f3054499dc3ede726848fa", func := "lockage/lockagelaw12.GateVotes", spec := "gateVotes", inPlace := ["slices.overlaps[int]"], unfollowed := true, recurses := true, apart := false }
def GateVotesSaid : Prop := gateVotesRow.holds Try.pinned (OpenSpec.ofChange gateVotesSpec)

/-- ITS FALSE NEIGHBOUR: 'it returns false'. Refute it at one input. -/
def gateVotesWrong : ChangeSpec := { name := "gateVotes", fn := fun _ => fun
  | [d1, d2] => { results := [.lit (.bool false)], args := [d1, d2] }
  | _ => none }
def GateVotesWrongFalsely : Prop := gateVotesRow.holds Try.pinned (OpenSpec.ofChange gateVotesWrong)

/-- 'lockagelaw12.GateOrder': WHATEVER THE INPUT: true; the input reads as it did. -/
def gateOrderSpec : ChangeSpec := { name := "gateOrder", fn := fun _ => fun
  | [d1, d2] => { results := [.lit (.bool true)], args := [d1, d2] }
  | _ => none }
def gateOrderRow : OpenClaim := { program := "ytpkmgdpnimecfaa", sum := "f63f6406760d486660378a86b58293e06e67121ea2f3054499dc3ede726848fa", func := "lockage/lockagelaw12.GateOrder", spec := "gateOrder", inPlace := ["slices.overlaps[int]"], unfollowed := true, recurses := true, apart := false }
def GateOrderSaid : Prop := gateOrderRow.holds Try.pinned (OpenSpec.ofChange gateOrderSpec)

/-- ITS FALSE NEIGHBOUR: 'it returns false'. Refute it at one input. -/
def gateOrderWrong : ChangeSpec := { name := "gateOrder", fn := fun _ => fun
  | [d1, d2] => { results := [.lit (.bool false)], args := [d1, d2] }
  | _ => none }
def GateOrderWrongFalsely : Prop := gateOrderRow.holds Try.pinned (OpenSpec.ofChange gateOrderWrong)

/-- 'lockagelaw09.OrderLong': WHATEVER THE INPUT: true; the input reads as it did. -/
def orderLongSpec : ChangeSpec := { name := "orderLong", fn := fun _ => fun
  | [d1, d2, d3] => { results := [.lit (.bool true)], args := [d1, d2, d3] }
  | _ => none }
def orderLongRow : OpenClaim := { program := "ytpkmgdpnimecfaa", sum := "f63f6406760d486660378a86b58293e06e67121ea2f3054499dc3ede726848fa", func := "lockage/lockagelaw09.OrderLong", spec := "orderLong", inPlace := ["internal/reflectlite.TypeOf"], unfollowed := true, recurses := true, apart := false }
def OrderLongSaid : Prop := orderLongRow.holds Try.pinned (OpenSpec.ofChange orderLongSpec)

/-- ITS FALSE NEIGHBOUR: 'it returns false'. Refute it at one input. -/
def orderLongWrong : ChangeSpec := { name := "orderLong", fn := fun _ => fun
  | [d1, d2, d3] => { results := [.lit (.bool false)], args := [d1, d2, d3] }
  | _ => none }
def OrderLongWrongFalsely : Prop := orderLongRow.holds Try.pinned (OpenSpec.ofChange orderLongWrong)

/- THE SECOND FORM. 'bulk': how many values and letters a reading holds, each counted each time it is reached (what is shared counts as often as it is met; a slice's spare places count too). A statement '..UptoSaid' is the law's where the arguments, and the package variables that the reading takes, are together of bulk at most 1048576: NARROWER than '..Said'. Prove '..Said' where nothing that the law and all that it calls make is longer than what came in: it says more and counts as full. Else prove '..UptoSaid'. A law counts once. -/
mutual
def uptoBulk {H : Type} : DataW H → Nat
  | .lit (.string bytes) => bytes.length + 1
  | .lit _ => 1
  | .nil => 1
  | .ptr d => uptoBulk d + 1
  | .slice elems spare => uptoBulkAll elems + uptoBulkAll spare + 1
  | .agg parts => uptoBulkAll parts + 1
  | .iface _ d => uptoBulk d + 1
  | .map entries => uptoBulkEntries entries + 1
  | .held _ => 1
def uptoBulkAll {H : Type} : List (DataW H) → Nat
  | [] => 0
  | d :: r => uptoBulk d + uptoBulkAll r
def uptoBulkEntries {H : Type} : List (Lit × DataW H) → Nat
  | [] => 0
  | x :: r => uptoBulkEntry x + uptoBulkEntries r
def uptoBulkEntry {H : Type} : Lit × DataW H → Nat
  | (.string bytes, d) => bytes.length + uptoBulk d + 1
  | (_, d) => uptoBulk d + 1
 end
def uptoSmall : (H : Type) → List (DataW H) → Bool := fun _ ds => decide (uptoBulkAll ds ≤ 1048576)
def OpenSpec.upto (s : _root_.Go.ChangeSpec) : _root_.Go.OpenSpec := { _root_.Go.OpenSpec.ofChange s with cond := some uptoSmall }

/-- 'lockagelaw18.SlotsTurn', WHERE WHAT IT READS IS OF BULK AT MOST 1048576: true; the input reads as it did. -/
def slotsTurnUptoRow : OpenClaim := { program := "ytpkmgdpnimecfaa", sum := "f63f6406760d486660378a86b58293e06e67121ea2f3054499dc3ede726848fa", func := "lockage/lockagelaw18.SlotsTurn", spec := "slotsTurn", apart := false, narrowed := true }
def SlotsTurnUptoSaid : Prop := slotsTurnUptoRow.holds Try.pinned (OpenSpec.upto slotsTurnSpec)

/-- 'lockagelaw11.LeaseSettles', WHERE WHAT IT READS IS OF BULK AT MOST 1048576: true; the input reads as it did. -/
def leaseSettlesUptoRow : OpenClaim := { program := "ytpkmgdpnimecfaa", sum := "f63f6406760d486660378a86b58293e06e67121ea2f3054499dc3ede726848fa", func := "lockage/lockagelaw11.LeaseSettles", spec := "leaseSettles", apart := false, narrowed := true }
def LeaseSettlesUptoSaid : Prop := leaseSettlesUptoRow.holds Try.pinned (OpenSpec.upto leaseSettlesSpec)

/-- 'lockagelaw11.LeaseTries', WHERE WHAT IT READS IS OF BULK AT MOST 1048576: true; the input reads as it did. -/
def leaseTriesUptoRow : OpenClaim := { program := "ytpkmgdpnimecfaa", sum := "f63f6406760d486660378a86b58293e06e67121ea2f3054499dc3ede726848fa", func := "lockage/lockagelaw11.LeaseTries", spec := "leaseTries", apart := false, narrowed := true }
def LeaseTriesUptoSaid : Prop := leaseTriesUptoRow.holds Try.pinned (OpenSpec.upto leaseTriesSpec)

/-- 'lockagelaw11.LeaseHolds', WHERE WHAT IT READS IS OF BULK AT MOST 1048576: true; the input reads as it did. -/
def leaseHoldsUptoRow : OpenClaim := { program := "ytpkmgdpnimecfaa", sum := "f63f6406760d486660378a86b58293e06e67121ea2f3054499dc3ede726848fa", func := "lockage/lockagelaw11.LeaseHolds", spec := "leaseHolds", apart := false, narrowed := true }
def LeaseHoldsUptoSaid : Prop := leaseHoldsUptoRow.holds Try.pinned (OpenSpec.upto leaseHoldsSpec)

/-- 'lockagelaw02.RosterTells', WHERE WHAT IT READS IS OF BULK AT MOST 1048576: true; the input reads as it did. -/
def rosterTellsUptoRow : OpenClaim := { program := "ytpkmgdpnimecfaa", sum := "f63f6406760d486660378a86b58293e06e67121ea2f3054499dc3ede726848fa", func := "lockage/lockagelaw02.RosterTells", spec := "rosterTells", unfollowed := true, recurses := true, apart := false, narrowed := true }
def RosterTellsUptoSaid : Prop := rosterTellsUptoRow.holds Try.pinned (OpenSpec.upto rosterTellsSpec)

/-- 'lockagelaw02.RosterFlows', WHERE WHAT IT READS IS OF BULK AT MOST 1048576: true; the input reads as it did. -/
def rosterFlowsUptoRow : OpenClaim := { program := "ytpkmgdpnimecfaa", sum := "f63f6406760d486660378a86b58293e06e67121ea2f3054499dc3ede726848fa", func := "lockage/lockagelaw02.RosterFlows", spec := "rosterFlows", unfollowed := true, recurses := true, apart := false, narrowed := true }
def RosterFlowsUptoSaid : Prop := rosterFlowsUptoRow.holds Try.pinned (OpenSpec.upto rosterFlowsSpec)

/-- 'lockagelaw02.RosterNil', WHERE WHAT IT READS IS OF BULK AT MOST 1048576: true; the input reads as it did. -/
def rosterNilUptoRow : OpenClaim := { program := "ytpkmgdpnimecfaa", sum := "f63f6406760d486660378a86b58293e06e67121ea2f3054499dc3ede726848fa", func := "lockage/lockagelaw02.RosterNil", spec := "rosterNil", unfollowed := true, recurses := true, apart := false, narrowed := true }
def RosterNilUptoSaid : Prop := rosterNilUptoRow.holds Try.pinned (OpenSpec.upto rosterNilSpec)

/-- 'lockagelaw02.RosterBelow', WHERE WHAT IT READS IS OF BULK AT MOST 1048576: true; the input reads as it did. -/
def rosterBelowUptoRow : OpenClaim := { program := "ytpkmgdpnimecfaa", sum := "f63f6406760d486660378a86b58293e06e67121ea2f3054499dc3ede726848fa", func := "lockage/lockagelaw02.RosterBelow", spec := "rosterBelow", unfollowed := true, recurses := true, apart := false, narrowed := true }
def RosterBelowUptoSaid : Prop := rosterBelowUptoRow.holds Try.pinned (OpenSpec.upto rosterBelowSpec)

/-- 'lockagelaw12.GateVotes', WHERE WHAT IT READS IS OF BULK AT MOST 1048576: true; the input reads as it did. -/
def gateVotesUptoRow : OpenClaim := { program := "ytpkmgdpnimecfaa", sum := "f63f6406760d486660378a86b58293e06e67121ea2f3054499dc3ede726848fa", func := "lockage/lockagelaw12.GateVotes", spec := "gateVotes", inPlace := ["slices.overlaps[int]"], unfollowed := true, recurses := true, apart := false, narrowed := true }
def GateVotesUptoSaid : Prop := gateVotesUptoRow.holds Try.pinned (OpenSpec.upto gateVotesSpec)

/-- 'lockagelaw12.GateOrder', WHERE WHAT IT READS IS OF BULK AT MOST 1048576: true; the input reads as it did. -/
def gateOrderUptoRow : OpenClaim := { program := "ytpkmgdpnimecfaa", sum := "f63f6406760d486660378a86b58293e06e67121ea2f3054499dc3ede726848fa", func := "lockage/lockagelaw12.GateOrder", spec := "gateOrder", inPlace := ["slices.overlaps[int]"], unfollowed := true, recurses := true, apart := false, narrowed := true }
def GateOrderUptoSaid : Prop := gateOrderUptoRow.holds Try.pinned (OpenSpec.upto gateOrderSpec)

/-- 'lockagelaw09.OrderLong', WHERE WHAT IT READS IS OF BULK AT MOST 1048576: true; the input reads as it did. -/
def orderLongUptoRow : OpenClaim := { program := "ytpkmgdpnimecfaa", sum := "f63f6406760d486660378a86b58293e06e67121ea2f3054499dc3ede726848fa", func := "lockage/lockagelaw09.OrderLong", spec := "orderLong", inPlace := ["internal/reflectlite.TypeOf"], unfollowed := true, recurses := true, apart := false, narrowed := true }
def OrderLongUptoSaid : Prop := orderLongUptoRow.holds Try.pinned (OpenSpec.upto orderLongSpec)

end Rows
end Go.Proofs.Ytpkmgdpnimecfaa
