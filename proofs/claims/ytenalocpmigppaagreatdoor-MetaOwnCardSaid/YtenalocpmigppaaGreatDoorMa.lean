/- Heads, and meta.page, meta.may. -/
import Derived.Test.YtenalocpmigppaaGreatDoorWt
import Derived.Deep.CutRange
namespace Go.Proofs.YtenalocpmigppaaGreatDoor
open Go.RowKit

set_option maxHeartbeats 400000 in
theorem num_calls (k : Int) (w : World) : Calls Tryz.prog 34 #[.int .i64 k] w fun e w' => e = .returned (.int .i64 k) ∧ w = w' := by
  go_enter Tryz.func34, Tryz.ntmps34
  go_wp2
  go_ret
  exact ⟨rfl, rfl⟩

def pageB (n c : Int) : Bool := decide (n = 0 ∨ (2 ≤ n ∧ n < c))
theorem ret_bool {a b : Bool} (h : a = b) : Ending.returned (.bool a) = Ending.returned (.bool b) := by rw [h]
set_option maxHeartbeats 1000000 in
theorem page_calls (n c : Int) (w : World) : Calls Tryz.prog 135 #[.int .i64 n, .int .i64 c] w fun e w' => e = .returned (.bool (pageB n c)) ∧ w = w' := by
  unfold pageB
  by_cases h0 : n = 0
  · subst h0
    go_enter Tryz.func135, Tryz.ntmps135
    go_wp2
    go_ret
    exact ⟨ret_bool (by simp), rfl⟩
  · by_cases h1 : 2 ≤ n
    · go_enter Tryz.func135, Tryz.ntmps135
      go_wp2
      go_ret
      refine ⟨ret_bool ?_, rfl⟩
      rw [Bool.eq_iff_iff]; simp; omega
    · have h1' : n < 2 := by omega
      go_enter Tryz.func135, Tryz.ntmps135
      go_wp2
      go_ret
      refine ⟨ret_bool ?_, rfl⟩
      rw [Bool.eq_iff_iff]; simp; omega
end Go.Proofs.YtenalocpmigppaaGreatDoor
