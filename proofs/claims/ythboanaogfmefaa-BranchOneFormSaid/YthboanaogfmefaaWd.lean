/- Plain laws for the loop of wire.Get. -/
import Derived.Test.YthboanaogfmefaaWa
import Derived.Test.YthboanaogfmefaaV
namespace Go.Proofs.Ythboanaogfmefaa
open Go.RowKit

theorem wrapu64_of (v : Nat) (h : v < 256 ^ 8) : IntKind.u64.wrap (v : Int) = (v : Int) := by
  have : 256 ^ 8 = 18446744073709551616 := by decide
  rw [IntKind.wrap_u64]; omega
theorem wrapu32_of (v : Nat) (h : v < 256 ^ 4) : IntKind.u32.wrap (v : Int) = (v : Int) := by
  have : 256 ^ 4 = 4294967296 := by decide
  rw [IntKind.wrap_u32]; omega
theorem wrapu16_of (v : Nat) (h : v < 256 ^ 2) : IntKind.u16.wrap (v : Int) = (v : Int) := by
  have : 256 ^ 2 = 65536 := by decide
  rw [IntKind.wrap_u16]; omega
theorem wrapu8_of (v : Nat) (h : v < 256 ^ 1) : IntKind.u8.wrap (v : Int) = (v : Int) := by
  have : 256 ^ 1 = 256 := by decide
  rw [IntKind.wrap_u8]; omega
theorem bits_or64 (a b : Nat) (ha : a < 256 ^ 8) (hb : b < 256 ^ 8) : bits .or .u64 (a : Int) (b : Int) = ((a ||| b : Nat) : Int) := by
  have e8 : 256 ^ 8 = 2 ^ 64 := by decide
  show IntKind.u64.wrap ((BitVec.ofInt 64 (a : Int) ||| BitVec.ofInt 64 (b : Int)).toNat : Int) = _
  have e : ∀ z : Nat, z < 256 ^ 8 → (BitVec.ofInt 64 (z : Int)).toNat = z := fun z hz => by
    rw [BitVec.toNat_ofInt]
    have : 256 ^ 8 = 18446744073709551616 := by decide
    show ((z : Int) % 18446744073709551616).toNat = z
    omega
  rw [BitVec.toNat_or, e a ha, e b hb]
  refine wrapu64_of _ ?_
  rw [e8] at *
  exact Nat.or_lt_two_pow ha hb
theorem get_step (v k : Nat) (b : UInt8) (hk : k < 8) (hv : v < 256 ^ k) :
    bits .or .u64 (v : Int) (IntKind.u64.wrap (IntKind.u64.wrap (b.toNat : Int) * 2 ^ (8 * k))) = ((v + 256 ^ k * b.toNat : Nat) : Int) ∧ v + 256 ^ k * b.toNat < 256 ^ (k + 1) := by
  have hb := b.toNat_lt
  have hp : 256 ^ (k + 1) ≤ 256 ^ 8 := Nat.pow_le_pow_right (by decide) (by omega)
  have e1 : 256 ^ (k + 1) = 256 ^ k * 256 := Nat.pow_succ ..
  have h1 : 256 ^ k * b.toNat ≤ 256 ^ k * 255 := Nat.mul_le_mul_left _ (by omega)
  have h2 : v + 256 ^ k * b.toNat < 256 ^ (k + 1) := by rw [e1]; omega
  refine ⟨?_, h2⟩
  have e2 : (2 : Nat) ^ (8 * k) = 256 ^ k := by rw [Nat.pow_mul]
  have e3 : ((b.toNat : Int)) * (2 : Int) ^ (8 * k) = ((256 ^ k * b.toNat : Nat) : Int) := by
    rw [← e2, Int.natCast_mul, Int.natCast_pow, Int.mul_comm]; rfl
  have p8 : b.toNat < 256 ^ 8 := Nat.lt_of_lt_of_le hb (by decide)
  rw [wrapu64_of _ p8, e3, wrapu64_of _ (by omega), bits_or64 _ _ (by omega) (by omega)]
  congr 1
  rw [← e2] at hv ⊢
  rw [Nat.add_comm, Nat.two_pow_add_eq_or_of_lt hv, Nat.or_comm]
theorem get_next {L : List UInt8} {k v : Nat} (h : k < L.length) (hv : Hid (v = unle (L.take k))) : Hid (v + 256 ^ k * L[k].toNat = unle (L.take (k + 1))) := by
  unfold Hid
  rw [unle_take_succ L k h, ← hv.out]
end Go.Proofs.Ythboanaogfmefaa
