/- The contracts of wire.Get[uint32]. -/
import Derived.Test.YtieoleiokjoccaaWs
import Derived.Test.YtieoleiokjoccaaWa
import Derived.Test.YtieoleiokjoccaaWp32
namespace Go.Proofs.Ytieoleiokjoccaa
open Go.RowKit

set_option maxRecDepth 100000 in
set_option maxHeartbeats 1000000 in
theorem Get32_ok (g : Nat) (B : List UInt8) (at_ : Nat) (w : World) (h : Rd w g B at_ 0) (hk : at_ + 4 ≤ B.length) :
    Calls Try.prog 73 #[.pointer (some ⟨g, 0, none⟩)] w fun e w' => e = .returned (.int .u32 (unle ((B.drop at_).take 4) : Nat)) ∧ Rd w' g B (at_ + 4) 0 ∧ w.grownBy w' (some g) := by
  obtain ⟨L, hL⟩ : ∃ L, (B.drop at_).take 4 = L := ⟨_, rfl⟩
  have hl : L.length = 4 := by rw [← hL, List.length_take, List.length_drop]; omega
  have con := take_ok g B at_ 4 w h hk
  rw [hL] at con ⊢
  have hu := unle_lt L
  rw [hl] at hu
  clear hL
  have HL := hideIt hl
  clear hl
  go_enter Try.func73, Try.ntmps73
  go_wp2_with (first
    | (go_at_call 71; refine con.mono ?_; rintro e w1 ⟨A1, rfl, r1, d1, g1⟩)
    | (go_at_call 57; refine (width32_calls _).mono ?_; rintro e w2 ⟨rfl, rfl⟩))
  obtain ⟨ad, rfl, cells⟩ := r1.addr (by rw [r1.len]; decide)
  go_loopw [3, 10] (fun vv ii wr => ∃ (k v : Nat), k ≤ 4 ∧ vv = .int .u64 (v : Int) ∧ ii = .int .i64 (k : Int) ∧ Hid (v = unle (L.take k)) ∧ Hid (v < 256 ^ k) ∧ w1 = wr)
    (fun _ ii _ => 4 - (intOf ii).toNat)
  case atStart => exact ⟨0, 0, by omega, rfl, rfl, by unfold Hid; simp [unle], by unfold Hid; simp, by trivial⟩
  case round =>
    obtain ⟨k, v, hk2, rfl, rfl, HV, hv, rfl⟩ := hrel
    by_cases hlt : k < 4
    · have hkl : k < L.length := by rw [HL.out]; exact hlt
      have ck := cells k hkl
      have H := get_next hkl HV
      generalize L[k] = b at ck H
      have st := get_step v k b (by omega) hv.out
      have ST := hideIt st.1
      have SB := hideIt st.2
      clear cells st
      go_wp2
      go_roundw
      case rel => exact ⟨k + 1, v + 256 ^ k * b.toNat, by omega, by rw [ST.out], by go_num, H, SB, by trivial⟩
      case measure => simp [intOf]; omega
    · obtain rfl : k = 4 := by omega
      have ev : v = unle L := by rw [HV.out, List.take_of_length_le (by rw [HL.out]; exact Nat.le_refl _)]
      have vb : v < 256 ^ 4 := hv.out
      have EV := hideIt ev
      clear ev
      have vw := wrapu32_of v vb
      go_wp2
      go_ret
      rw [← EV.out]
      first | exact ⟨rfl, d1, g1⟩ | exact ⟨by rw [vw]; rfl, d1, g1⟩

set_option maxRecDepth 100000 in
set_option maxHeartbeats 1000000 in
theorem Get32_no (g : Nat) (B : List UInt8) (at_ : Nat) (er : Int) (w : World) (h : Rd w g B at_ er) (hno : ¬ (er = 0 ∧ at_ + 4 ≤ B.length)) :
    Calls Try.prog 73 #[.pointer (some ⟨g, 0, none⟩)] w fun e w' => e = .returned (.int .u32 0) ∧ Rd w' g B at_ (if er = 0 then 10 else er) ∧ w.grownBy w' (some g) := by
  have con := take_calls g B at_ er 4 w h (by omega)
  have hle := h.le
  have hn : ¬ (er = 0 ∧ (0 : Int) ≤ 4 ∧ (4 : Int) ≤ (B.length : Int) - (at_ : Int)) := by rintro ⟨q1, q2, q3⟩; exact hno ⟨q1, by omega⟩
  unfold Took at con
  simp only [if_neg hn] at con
  generalize (if er = 0 then 10 else er) = er' at con ⊢
  clear hle hno hn
  go_enter Try.func73, Try.ntmps73
  go_wp2_with (first
    | (go_at_call 71; refine con.mono ?_; rintro e w1 ⟨r1, rfl, ⟨rfl, d1⟩, g1⟩)
    | (go_at_call 57; refine (width32_calls _).mono ?_; rintro e w2 ⟨rfl, rfl⟩))
  go_loopw [3, 10] (fun vv ii wr => vv = .int .u64 0 ∧ ii = .int .i64 0 ∧ w1 = wr) (fun _ _ _ => 0)
  case atStart => exact ⟨rfl, rfl, by trivial⟩
  case round =>
    obtain ⟨rfl, rfl, rfl⟩ := hrel
    go_wp2
    go_ret
    exact ⟨rfl, d1, g1⟩

theorem Get32_any (g : Nat) (B : List UInt8) (at_ : Nat) (er : Int) (w : World) (h : Rd w g B at_ er) :
    Calls Try.prog 73 #[.pointer (some ⟨g, 0, none⟩)] w fun e w' => e = .returned (.int .u32 ((numS B at_ er 4).1 : Nat)) ∧ Rd w' g B (numS B at_ er 4).2.1 (numS B at_ er 4).2.2 ∧ w.grownBy w' (some g) := by
  by_cases hy : er = 0 ∧ at_ + 4 ≤ B.length
  · have e1 : numS B at_ er 4 = (unle ((B.drop at_).take 4), at_ + 4, 0) := by unfold numS; rw [if_pos hy]
    rw [e1]
    obtain ⟨rfl, hy⟩ := hy
    exact Get32_ok g B at_ w h hy
  · have e1 : numS B at_ er 4 = (0, at_, if er = 0 then 10 else er) := by unfold numS; rw [if_neg hy]
    rw [e1]
    exact Get32_no g B at_ er w h hy
end Go.Proofs.Ytieoleiokjoccaa
