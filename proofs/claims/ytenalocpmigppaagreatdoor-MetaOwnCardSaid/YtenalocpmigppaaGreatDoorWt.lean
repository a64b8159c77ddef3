/- The contracts of coppiceref1's reader: New, Bytes, Num. -/
import Derived.Test.YtenalocpmigppaaGreatDoorRefA
import Derived.Test.YtenalocpmigppaaGreatDoorWs
import Derived.Test.YtenalocpmigppaaGreatDoorWa
import Derived.Deep.RegionHeld3
namespace Go.Proofs.YtenalocpmigppaaGreatDoor
open Go.RowKit

theorem num_step (x : Nat) (b : UInt8) (m : Nat) (hm : m + 1 ≤ 8) (hx : x < 256 ^ m) : bits .or .u64 (IntKind.u64.wrap ((x : Int) * 256)) (IntKind.u64.wrap (b.toNat : Int)) = ((b.toNat + 256 * x : Nat) : Int) ∧ b.toNat + 256 * x < 256 ^ (m + 1) := by
  have hb := b.toNat_lt
  have e1 : 256 ^ (m + 1) = 256 ^ m * 256 := Nat.pow_succ ..
  have h2 : b.toNat + 256 * x < 256 ^ (m + 1) := by rw [e1]; omega
  refine ⟨?_, h2⟩
  have hp : 256 ^ (m + 1) ≤ 256 ^ 8 := Nat.pow_le_pow_right (by decide) hm
  have e3 : (x : Int) * 256 = ((256 * x : Nat) : Int) := by omega
  have p8 : b.toNat < 256 ^ 8 := Nat.lt_of_lt_of_le hb (by decide)
  rw [wrapu64_of _ p8, e3, wrapu64_of _ (by omega), bits_or64 _ _ (by omega) p8]
  congr 1
  have := Nat.two_pow_add_eq_or_of_lt (i := 8) (b := b.toNat) hb x
  rw [show (2 : Nat) ^ 8 = 256 from rfl] at this
  rw [← this, Nat.add_comm]

end Go.Proofs.YtenalocpmigppaaGreatDoor
