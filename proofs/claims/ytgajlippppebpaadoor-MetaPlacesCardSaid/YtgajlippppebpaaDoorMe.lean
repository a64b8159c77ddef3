/- coppiceref7.number. -/
import Derived.Test.YtgajlippppebpaaDoorMa
namespace Go.Proofs.YtgajlippppebpaaDoor
open Go.RowKit

/-- The document's number of eight bytes. -/
def numB7 (x : Nat) : Int := if 4611686018427387904 < x then 4611686018427387905 else (x : Int)
set_option maxHeartbeats 1000000 in
theorem number_calls (x : Nat) (w : World) (_hx : x < 18446744073709551616) :
    Calls Tryd.prog 39 #[.int .u64 (x : Int)] w fun e w' => e = .returned (.int .i64 (numB7 x)) ∧ w = w' := by
  unfold numB7
  by_cases h : 4611686018427387904 < x
  · rw [if_pos h]
    have h' : (4611686018427387904 : Int) < (x : Int) := by omega
    go_enter Tryd.func39, Tryd.ntmps39
    go_wp2
    go_ret
    exact ⟨rfl, rfl⟩
  · rw [if_neg h]
    have h' : (x : Int) ≤ (4611686018427387904 : Int) := by omega
    go_enter Tryd.func39, Tryd.ntmps39
    go_wp2
    go_ret
    exact ⟨rfl, rfl⟩
end Go.Proofs.YtgajlippppebpaaDoor
