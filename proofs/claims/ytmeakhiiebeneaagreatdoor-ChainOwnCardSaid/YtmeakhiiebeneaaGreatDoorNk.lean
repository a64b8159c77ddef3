/- coppiceref6: DecodeData, DecodeList. -/
import Derived.Test.YtmeakhiiebeneaaGreatDoorNj
import Derived.Test.YtmeakhiiebeneaaGreatDoorNg
namespace Go.Proofs.YtmeakhiiebeneaaGreatDoor
open Go.RowKit

theorem decD_of {b : List UInt8} (h : okD b = true) : decD b = (nextOf b, dataOf b, 0) := by unfold decD; rw [if_pos h]
theorem decD_no {b : List UInt8} (h : ¬ okD b = true) : decD b = (0, [], 60) := by unfold decD; rw [if_neg h]
theorem decL_of {b : List UInt8} (h : okL b = true) : decL b = (nextOf b, numsOf b (cntOf b), 0) := by unfold decL; rw [if_pos h]
theorem decL_no {b : List UInt8} (h : ¬ okL b = true) : decL b = (0, [], 61) := by unfold decL; rw [if_neg h]
theorem okD_len {b : List UInt8} (h : ¬ b.length = 4092) : ¬ okD b = true := by
  intro q; unfold okD at q; rw [Bool.and_eq_true] at q; exact h (kind_len q.1)
theorem okL_len {b : List UInt8} (h : ¬ b.length = 4092) : ¬ okL b = true := by
  intro q; unfold okL at q; simp only [Bool.and_eq_true] at q; exact h (kind_len q.1.1)
theorem okD_cnt {b : List UInt8} (h : ¬ cntOf b ≤ 4085) : ¬ okD b = true := by
  intro q; unfold okD at q; simp only [Bool.and_eq_true] at q; exact h (isData_iff q.2.1).2.1
theorem okL_cnt {b : List UInt8} (h : ¬ cntOf b ≤ 1021) : ¬ okL b = true := by
  intro q; unfold okL at q; simp only [Bool.and_eq_true] at q; exact h (of_decide_eq_true q.1.2)

end Go.Proofs.YtmeakhiiebeneaaGreatDoor
