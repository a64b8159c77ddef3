/- wire.width[uint8]. -/
import Derived.Test.YtmeakhiiebeneaaGreatDoorWb
namespace Go.Proofs.YtmeakhiiebeneaaGreatDoor
open Go.RowKit

set_option maxHeartbeats 400000 in
theorem width8_calls (w : World) : Calls Tryz.prog 169 #[] w fun e w' => e = .returned (.int .i64 1) ∧ w = w' := by
  have h0 := ones_top1
  go_enter Tryz.func169, Tryz.ntmps169
  go_wp2
  go_loopw [1, 2] (fun nn mm wr => ∃ (k j : Nat), k + j = 1 ∧ nn = .int .i64 (k : Int) ∧ mm = .int .u64 (ones j : Int) ∧ w = wr)
    (fun nn _ _ => 1 - (intOf nn).toNat)
  case atStart => exact ⟨0, 1, rfl, rfl, by rw [h0]; rfl, rfl⟩
  case round =>
    obtain ⟨k, j, hkj, rfl, rfl, rfl⟩ := hrel
    match j, hkj with
    | 0, hkj =>
      obtain rfl : k = 1 := by omega
      have h1 := ones_zero
      go_wp2
      go_ret
      first | exact ⟨rfl, rfl⟩ | exact ⟨rfl, trivial⟩
    | j + 1, hkj =>
      have h1 := ones_pos j
      have h2 := ones_div j
      have h3 := ones_le j (by omega)
      go_wp2
      go_roundw
      case rel => exact ⟨k + 1, j, by omega, by go_num, rfl, by trivial⟩
      case measure => simp [intOf]; omega

end Go.Proofs.YtmeakhiiebeneaaGreatDoor
