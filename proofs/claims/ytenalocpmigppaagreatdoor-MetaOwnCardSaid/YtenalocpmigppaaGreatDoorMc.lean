/- coppiceref7.May answers as meta.may. -/
import Derived.Test.YtenalocpmigppaaGreatDoorMb
namespace Go.Proofs.YtenalocpmigppaaGreatDoor
open Go.RowKit

theorem wrap_less2 (v n : Int) (h : numsB v n = true) : wrap64 (n - 2) = n - 2 := by
  unfold numsB at h
  rw [decide_eq_true_eq] at h
  unfold wrap64
  omega
theorem numsB_out {v n : Int} (h : numsB v n = true) : 1 ≤ v ∧ v ≤ 4611686018427387904 ∧ 2 ≤ n ∧ n ≤ 524287 := by
  unfold numsB at h; rwa [decide_eq_true_eq] at h
def rootB (n r h k : Int) : Bool := decide (2 ≤ r ∧ r < n ∧ 1 ≤ h ∧ h ≤ 16 ∧ 1 ≤ k ∧ k ≤ 4294967295)
end Go.Proofs.YtenalocpmigppaaGreatDoor
