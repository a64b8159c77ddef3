/- wire: (*Reader).Err. -/
import Derived.Test.YtieoleiokjoccaaWo
namespace Go.Proofs.Ytieoleiokjoccaa
open Go.RowKit

set_option maxHeartbeats 1000000 in
theorem Err_calls (g : Nat) (B : List UInt8) (at_ : Nat) (e : Int) (w : World) (h : Rd w g B at_ e) :
    Calls Try.prog 51 #[.pointer (some ⟨g, 0, none⟩)] w fun en w' => en = .returned (.tuple #[.int .i64 e, .int .i64 (at_ : Int)]) ∧ ∃ j, w' = w.drewN j := by
  obtain ⟨gb, n, c, c0, c1, c2, f1, f2, ob, ne, la, ln, lc⟩ := h.laid
  go_enter Try.func51, Try.ntmps51
  go_wp2
  go_quiet (fail)
  go_wp2
  go_ret2
  exact ⟨rfl, _, rfl⟩
end Go.Proofs.Ytieoleiokjoccaa
