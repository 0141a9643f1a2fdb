/- The digits of a hexadecimal text. -/
import Derived.Test.YtpkmgdpnimecfabDoorFmt
namespace Go.Proofs.YtpkmgdpnimecfabDoor

/-- a byte's digit -/
def pH (c : UInt8) : Option Nat :=
  if 48 ≤ c.toNat ∧ c.toNat ≤ 57 then some (c.toNat - 48)
  else if 97 ≤ (c ||| 32).toNat ∧ (c ||| 32).toNat ≤ 102 then some ((c ||| 32).toNat - 87) else none
def hvL : List UInt8 → Nat → Option Nat
  | [], n => some n
  | c :: l, n => match pH c with
    | some d => hvL l (n * 16 + d)
    | none => none
theorem pH_lt {c : UInt8} {d : Nat} (h : pH c = some d) : d < 16 := by
  unfold pH at h
  split at h
  · cases h; omega
  · split at h
    · cases h; omega
    · cases h
end Go.Proofs.YtpkmgdpnimecfabDoor
