/- What the calls of a reader answer, and how it stands behind them: no program in sight. -/
import Derived.Test.YthboanaogfmefaaWa
import Derived.Test.YthboanaogfmefaaVa
namespace Go.Proofs.Ythboanaogfmefaa
open Go.RowKit

/-- Get of W bytes: the number, the place, the error. -/
def numS (B : List UInt8) (at_ : Nat) (e : Int) (W : Nat) : Nat × Nat × Int :=
  if e = 0 ∧ at_ + W ≤ B.length then (unle ((B.drop at_).take W), at_ + W, 0) else (0, at_, if e = 0 then 10 else e)
/-- Bytes(k). -/
def bytesS (B : List UInt8) (at_ : Nat) (e k : Int) : List UInt8 × Nat × Int :=
  if e = 0 ∧ 0 ≤ k ∧ k ≤ (B.length : Int) - (at_ : Int) then ((B.drop at_).take k.toNat, at_ + k.toNat, 0) else ([], at_, if e = 0 then 10 else e)
/-- V. -/
def vS (B : List UInt8) (at_ : Nat) (e : Int) : Nat × Nat × Int :=
  if e = 0 then ((vOut (B.drop at_)).1, at_ + (vOut (B.drop at_)).2.1, (vOut (B.drop at_)).2.2) else (0, at_, e)
/-- Left. -/
def leftS (B : List UInt8) (at_ : Nat) (e : Int) : Nat := if e = 0 then B.length - at_ else 0

theorem numS_lt (B : List UInt8) (at_ : Nat) (e : Int) (W : Nat) : (numS B at_ e W).1 < 256 ^ W := by
  unfold numS
  split
  · refine Nat.lt_of_lt_of_le (unle_lt _) (Nat.pow_le_pow_right (by decide) ?_)
    rw [List.length_take]; omega
  · exact Nat.pow_pos (by decide)
theorem vOut_lt (L : List UInt8) : (vOut L).1 < 18446744073709551616 := by
  rcases vOut_cases L with ⟨e, _, h⟩ | ⟨x, k, h, _, _, _, h2, _⟩
  · rw [h]; show (0 : Nat) < 18446744073709551616; decide
  · rw [h]; exact h2
theorem vS_lt (B : List UInt8) (at_ : Nat) (e : Int) : (vS B at_ e).1 < 18446744073709551616 := by
  unfold vS
  split
  · exact vOut_lt _
  · show (0 : Nat) < 18446744073709551616; decide
end Go.Proofs.Ythboanaogfmefaa
