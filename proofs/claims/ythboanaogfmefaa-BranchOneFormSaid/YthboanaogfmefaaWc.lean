/- Plain laws for the loops of wire.width and wire.Put. -/
import Derived.Test.YthboanaogfmefaaWb
namespace Go.Proofs.Ythboanaogfmefaa
open Go.RowKit

/-- a number of j bytes that are all 255. -/
def ones (j : Nat) : Nat := 256 ^ j - 1
theorem ones_top1 : ones 1 = 255 := by decide
theorem ones_top2 : ones 2 = 65535 := by decide
theorem ones_top4 : ones 4 = 4294967295 := by decide
theorem ones_top8 : ones 8 = 18446744073709551615 := by decide
theorem ones_zero : (ones 0 : Int) = 0 := rfl
theorem ones_pos (j : Nat) : (0 : Int) < (ones (j + 1) : Int) := by
  have : 0 < 256 ^ j := Nat.pow_pos (by decide)
  have e : 256 ^ (j + 1) = 256 * 256 ^ j := by rw [Nat.pow_succ, Nat.mul_comm]
  unfold ones
  omega
theorem ones_div (j : Nat) : (ones (j + 1) : Int) / 256 = (ones j : Int) := by
  have : 0 < 256 ^ j := Nat.pow_pos (by decide)
  have e : 256 ^ (j + 1) = 256 * 256 ^ j := by rw [Nat.pow_succ, Nat.mul_comm]
  unfold ones
  omega
theorem ones_le (j : Nat) (h : j + 1 ≤ 8) : (ones (j + 1) : Int) ≤ 18446744073709551615 := by
  have : 256 ^ (j + 1) ≤ 256 ^ 8 := Nat.pow_le_pow_right (by decide) h
  have e : 256 ^ 8 = 18446744073709551616 := by decide
  unfold ones
  omega
structure LowByte (v : Nat) (b : UInt8) (q : Nat) : Prop where
  byte : b = UInt8.ofNat (v % 256)
  next : q = v / 256
theorem low_byte (v : Nat) : ∃ (b : UInt8) (q : Nat), (v : Int) % 256 = (b.toNat : Int) ∧ (v : Int) / 256 = (q : Int) ∧ Hid (LowByte v b q ∧ q ≤ v) := by
  refine ⟨UInt8.ofNat (v % 256), v / 256, ?_, by omega, ⟨rfl, rfl⟩, Nat.div_le_self _ _⟩
  rw [UInt8.toNat_ofNat']; omega
theorem put_step {xs ys : List UInt8} {x k v q : Nat} {b : UInt8} (h : Hid (ys = xs ++ leB x k)) (hv : Hid (v = x / 256 ^ k)) (hb : Hid (LowByte v b q ∧ q ≤ v)) : Hid (ys ++ [b] = xs ++ leB x (k + 1)) := by
  have e1 := h.out; have e2 := hv.out; have e3 := hb.out.1.byte
  subst e1 e2 e3
  unfold Hid
  rw [leB_snoc, List.append_assoc]
theorem put_next {x k v q : Nat} {b : UInt8} (hv : Hid (v = x / 256 ^ k)) (hb : Hid (LowByte v b q ∧ q ≤ v)) : Hid (q = x / 256 ^ (k + 1)) := by
  have e2 := hv.out; have e3 := hb.out.1.next
  unfold Hid
  rw [e3, e2, Nat.div_div_eq_div_mul, Nat.pow_succ]
end Go.Proofs.Ythboanaogfmefaa
