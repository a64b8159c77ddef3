/- The contracts of wire.width[uint16] and wire.Put[uint16]. -/
import Derived.Test.YtieoleiokjoccaaWb
namespace Go.Proofs.Ytieoleiokjoccaa
open Go.RowKit

set_option maxHeartbeats 400000 in
theorem width16_calls (w : World) : Calls Try.prog 70 #[] w fun e w' => e = .returned (.int .i64 2) ∧ w = w' := by
  have h0 := ones_top2
  go_enter Try.func70, Try.ntmps70
  go_wp2
  go_loopw [1, 2] (fun nn mm wr => ∃ (k j : Nat), k + j = 2 ∧ nn = .int .i64 (k : Int) ∧ mm = .int .u64 (ones j : Int) ∧ w = wr)
    (fun nn _ _ => 2 - (intOf nn).toNat)
  case atStart => exact ⟨0, 2, rfl, rfl, by rw [h0]; rfl, rfl⟩
  case round =>
    obtain ⟨k, j, hkj, rfl, rfl, rfl⟩ := hrel
    match j, hkj with
    | 0, hkj =>
      obtain rfl : k = 2 := by omega
      have h1 := ones_zero
      go_wp2
      go_ret
      first | exact ⟨rfl, rfl⟩ | exact ⟨rfl, trivial⟩
    | j + 1, hkj =>
      have h1 := ones_pos j
      have h2 := ones_div j
      have h3 := ones_le j (by omega)
      go_wp2
      go_roundw
      case rel => exact ⟨k + 1, j, by omega, by go_num, rfl, by trivial⟩
      case measure => simp [intOf]; omega

set_option maxRecDepth 100000 in
set_option maxHeartbeats 1000000 in
theorem Put16_calls (A : Option Addr) (n c : Nat) (xs : List UInt8) (x : Nat) (w : World) (hx : RB w A n c xs) (hb : n ≤ 140737488355300) (hxx : x < 256 ^ 2) :
    Calls Try.prog 44 #[.slice A n c, .int .u16 (x : Int)] w fun e w' => ∃ g c', e = .returned (.slice (some ⟨g, 0, none⟩) (n + 2) c') ∧ w.heap.size ≤ g ∧ OB w' g (n + 2) c' (xs ++ leB x 2) ∧ Below w.heap.size w w' := by
  have hx64 : x < 18446744073709551616 := Nat.lt_of_lt_of_le hxx (by decide)
  go_enter Try.func44, Try.ntmps44
  go_wp2_with (first
    | (go_at_call 56; refine (grown_calls _ _ _ 8 _ _ hx (by omega)).mono ?_; rintro e w1 ⟨g1, rfl, s1, o1, b1⟩)
    | (go_at_call 70; refine (width16_calls _).mono ?_; rintro e w2 ⟨rfl, rfl⟩))
  go_loopw [5, 6, 12] (fun bb vv ii wr => ∃ (k g c' v : Nat) (ys : List UInt8), k ≤ 2 ∧ bb = .slice (some ⟨g, 0, none⟩) (n + k) c' ∧ vv = .int .u64 (v : Int) ∧ ii = .int .i64 (k : Int) ∧ w.heap.size ≤ g ∧ OB wr g (n + k) c' ys ∧ Hid (ys = xs ++ leB x k) ∧ Hid (v = x / 256 ^ k) ∧ v < 18446744073709551616 ∧ Below w.heap.size w wr)
    (fun _ _ ii _ => 2 - (intOf ii).toNat)
  case atStart => exact ⟨0, g1, _, x, xs, by omega, rfl, rfl, rfl, s1, o1, by unfold Hid; simp [leB], by unfold Hid; simp, by omega, b1⟩
  case round =>
    obtain ⟨k, g, c', v, ys, hk, rfl, rfl, rfl, sg, og, HY, HV, hv, bw⟩ := hrel
    by_cases hlt : k < 2
    · obtain ⟨b, q, hb1, hq1, HB⟩ := low_byte v
      have H1 := put_step HY HV HB
      have H2 := put_next HV HB
      have hq2 : q < 18446744073709551616 := by have := HB.out.2; omega
      go_wp2_with (at_builtin; have o2 := og.below ((Below.refl _ _).alloc (Nat.le_refl _) (.cells (u8s [b]).toArray 5)); refine wpB_app rfl _ _ rfl _ _ _ _ rfl o2 _ _ _ [b] rfl (RB.lit wr [b] 1 rfl (by simp [maxLen])).read (n + (k + 1)) (by omega) (by omega) ?_; intro g4 c4 w4 q4 p4 o4 k4; have lg := og.lt; have z4 := bw.size; have b4 := (bw.alloc z4 (.cells (u8s [b]).toArray 5)).grown k4 (by simp; omega) (by simp; omega))
      go_roundw
      case rel =>
        have q4' : g4 = g ∨ wr.heap.size + 1 ≤ g4 := by simpa using q4
        exact ⟨k + 1, g4, c4, q, _, by omega, rfl, rfl, by go_num, by omega, o4, H1, H2, by omega, b4⟩
      case measure => simp [intOf]; omega
    · obtain rfl : k = 2 := by omega
      go_wp2
      go_ret
      exact ⟨g, c', rfl, sg, by rw [← HY.out]; exact og, bw⟩
end Go.Proofs.Ytieoleiokjoccaa
