/- Shifts by whole bytes. -/
import Derived.WalkKit
namespace Go.Proofs.Ythboanaogfmefaa

theorem shift_bytes (x k : Nat) : (x : Int) / (2 : Int) ^ (8 * k) = ((x / 256 ^ k : Nat) : Int) := by
  have e : (2 : Nat) ^ (8 * k) = 256 ^ k := by rw [Nat.pow_mul]
  rw [← e, Int.natCast_ediv, Int.natCast_pow]
  rfl
end Go.Proofs.Ythboanaogfmefaa
