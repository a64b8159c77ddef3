/- The contract of coppiceref1.Put. -/
import Derived.Test.YtieoleiokjoccaaRefA
import Derived.Test.YtieoleiokjoccaaWb
import Derived.Test.YtieoleiokjoccaaWa
namespace Go.Proofs.Ytieoleiokjoccaa
open Go.RowKit

set_option maxRecDepth 100000 in
set_option maxHeartbeats 1000000 in
theorem refPut_calls (A : Option Addr) (n c : Nat) (xs : List UInt8) (x W : Nat) (w : World) (hx : RB w A n c xs) (hb : n ≤ 140737488351232) (hW : W ≤ 8) (_hxx : x < 18446744073709551616) :
    Calls Try.prog 60 #[.slice A n c, .int .u64 (x : Int), .int .i64 (W : Int)] w fun e w' => ∃ g c', e = .returned (.slice (some ⟨g, 0, none⟩) (n + W) c') ∧ w.heap.size ≤ g ∧ OB w' g (n + W) c' (xs ++ leB x W) ∧ Below w.heap.size w w' := by
  go_enter Try.func60, Try.ntmps60
  go_wp2_with (go_at_call 21; refine (Bytes_calls _ _ _ _ _ hx (by omega)).mono ?_; rintro e w1 ⟨g1, c1, rfl, s1, o1, b1⟩)
  go_loopw [7, 8] (fun bb ii wr => ∃ (k g c' : Nat) (ys : List UInt8), k ≤ W ∧ bb = .slice (some ⟨g, 0, none⟩) (n + k) c' ∧ ii = .int .i64 (k : Int) ∧ w.heap.size ≤ g ∧ OB wr g (n + k) c' ys ∧ Hid (ys = xs ++ leB x k) ∧ Below w.heap.size w wr)
    (fun _ ii _ => W - (intOf ii).toNat)
  case atStart => exact ⟨0, g1, _, xs, by omega, rfl, rfl, s1, o1, by unfold Hid; simp [leB], b1⟩
  case round =>
    obtain ⟨k, g, c', ys, hk, rfl, rfl, sg, og, HY, bw⟩ := hrel
    by_cases hlt : k < W
    · obtain ⟨v, hv⟩ : ∃ v, v = x / 256 ^ k := ⟨_, rfl⟩
      have hsh := shift_bytes x k
      rw [← hv] at hsh
      have HV := hideIt hv
      clear hv
      obtain ⟨b, q, hb1, -, HB⟩ := low_byte v
      have H1 := put_step HY HV HB
      go_wp2_with (at_builtin; have o2 := og.below ((Below.refl _ _).alloc (Nat.le_refl _) (.cells (u8s [b]).toArray 5)); refine wpB_app rfl _ _ rfl _ _ _ _ rfl o2 _ _ _ [b] rfl (RB.lit wr [b] 1 rfl (by simp [maxLen])).read (n + (k + 1)) (by omega) (by omega) ?_; intro g4 c4 w4 q4 p4 o4 k4; have lg := og.lt; have z4 := bw.size; have b4 := (bw.alloc z4 (.cells (u8s [b]).toArray 5)).grown k4 (by simp; omega) (by simp; omega))
      go_roundw
      case rel =>
        have q4' : g4 = g ∨ wr.heap.size + 1 ≤ g4 := by simpa using q4
        exact ⟨k + 1, g4, c4, _, by omega, rfl, by go_num, by omega, o4, H1, b4⟩
      case measure => simp [intOf]; omega
    · obtain rfl : k = W := by omega
      go_wp2
      go_ret
      exact ⟨g, c', rfl, sg, by rw [← HY.out]; exact og, bw⟩
end Go.Proofs.Ytieoleiokjoccaa
