/-
 Digits. No condition.
-/
import Derived.Test.YtboejpobmpfifaaGreatDoorTLibA
import Derived.Test.YtboejpobmpfifaaGreatDoorEngX
namespace Go.Proofs.YtboejpobmpfifaaGreatDoor.Eng
open Go
def cB (x : UInt8) : Bool := decide (48 ≤ x.toNat) && decide (x.toNat ≤ 57)
def kJ (l : List UInt8) : Nat := l.foldl (fun a x => 10 * a + (x.toNat - 48)) 0
theorem gL (x c : UInt8) {n : Nat} (hc : c.toNat = n) : ((x.toNat : Int) = (n : Int)) ↔ x = c := by
 rw [← UInt8.toNat_inj]; omega
