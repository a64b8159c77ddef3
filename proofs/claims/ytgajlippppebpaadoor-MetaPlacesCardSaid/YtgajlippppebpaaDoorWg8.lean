/- The contract of wire.Get[uint8]. -/
import Derived.Test.YtgajlippppebpaaDoorWs
import Derived.Test.YtgajlippppebpaaDoorWd
import Derived.Test.YtgajlippppebpaaDoorWp8
namespace Go.Proofs.YtgajlippppebpaaDoor
open Go.RowKit

set_option maxRecDepth 100000 in
set_option maxHeartbeats 1000000 in
theorem Get8_ok (g : Nat) (B : List UInt8) (at_ : Nat) (w : World) (h : Rd w g B at_ 0) (hk : at_ + 1 ≤ B.length) :
    Calls Tryd.prog 31 #[.pointer (some ⟨g, 0, none⟩)] w fun e w' => e = .returned (.int .u8 (unle ((B.drop at_).take 1) : Nat)) ∧ Rd w' g B (at_ + 1) 0 ∧ w.grownBy w' (some g) := by
  obtain ⟨L, hL⟩ : ∃ L, (B.drop at_).take 1 = L := ⟨_, rfl⟩
  have hl : L.length = 1 := by rw [← hL, List.length_take, List.length_drop]; omega
  have con := take_ok g B at_ 1 w h hk
  rw [hL] at con ⊢
  have hu := unle_lt L
  rw [hl] at hu
  clear hL
  have HL := hideIt hl
  clear hl
  go_enter Tryd.func31, Tryd.ntmps31
  go_wp2_with (first
    | (go_at_call 41; refine con.mono ?_; rintro e w1 ⟨A1, rfl, r1, d1, g1⟩)
    | (go_at_call 36; refine (width8_calls _).mono ?_; rintro e w2 ⟨rfl, rfl⟩))
  obtain ⟨ad, rfl, cells⟩ := r1.addr (by rw [r1.len]; decide)
  go_loopw [3, 10] (fun vv ii wr => ∃ (k v : Nat), k ≤ 1 ∧ vv = .int .u64 (v : Int) ∧ ii = .int .i64 (k : Int) ∧ Hid (v = unle (L.take k)) ∧ Hid (v < 256 ^ k) ∧ w1 = wr)
    (fun _ ii _ => 1 - (intOf ii).toNat)
  case atStart => exact ⟨0, 0, by omega, rfl, rfl, by unfold Hid; simp [unle], by unfold Hid; simp, by trivial⟩
  case round =>
    obtain ⟨k, v, hk2, rfl, rfl, HV, hv, rfl⟩ := hrel
    by_cases hlt : k < 1
    · have hkl : k < L.length := by rw [HL.out]; exact hlt
      have ck := cells k hkl
      have H := get_next hkl HV
      generalize L[k] = b at ck H
      have st := get_step v k b (by omega) hv.out
      have ST := hideIt st.1
      have SB := hideIt st.2
      clear cells st
      go_wp2
      go_roundw
      case rel => exact ⟨k + 1, v + 256 ^ k * b.toNat, by omega, by rw [ST.out], by go_num, H, SB, by trivial⟩
      case measure => simp [intOf]; omega
    · obtain rfl : k = 1 := by omega
      have ev : v = unle L := by rw [HV.out, List.take_of_length_le (by rw [HL.out]; exact Nat.le_refl _)]
      have vb : v < 256 ^ 1 := hv.out
      have EV := hideIt ev
      clear ev
      have vw := wrapu8_of v vb
      go_wp2
      go_ret
      rw [← EV.out]
      first | exact ⟨rfl, d1, g1⟩ | exact ⟨by rw [vw]; rfl, d1, g1⟩
end Go.Proofs.YtgajlippppebpaaDoor
