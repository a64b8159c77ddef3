/- coppiceref6: Pages, kid, number, read, body, EncodeData. -/
import Derived.Test.YtmeakhiiebeneaaGreatDoorM6
import Derived.Test.YtmeakhiiebeneaaGreatDoorWq6
import Derived.Test.YtmeakhiiebeneaaGreatDoorM1
namespace Go.Proofs.YtmeakhiiebeneaaGreatDoor
open Go.RowKit

set_option maxHeartbeats 1000000 in
theorem kid_calls (x : Int) (w : World) :
    Calls Tryz.prog 89 #[.int .i64 x] w fun e w' => e = .returned (.bool (isNextB x)) ∧ w = w' := by
  by_cases h0 : x = 0
  · subst h0
    go_enter Tryz.func89, Tryz.ntmps89
    go_wp2
    go_ret
    exact ⟨rfl, rfl⟩
  have e0 : (x == 0) = false := beq_eq_false_iff_ne.2 h0
  by_cases h1 : 2 ≤ x
  · by_cases h2 : x ≤ 524286
    · rw [isNext_yes ⟨h1, h2⟩]
      go_enter Tryz.func89, Tryz.ntmps89
      go_wp2
      go_ret
      exact ⟨ret_bool1 (by simp [*]), rfl⟩
    · rw [isNext_no (by omega)]
      have i2 : ¬ x ≤ 524286 := by omega
      go_enter Tryz.func89, Tryz.ntmps89
      go_wp2
      go_ret
      exact ⟨ret_bool1 (by simp), rfl⟩
  · rw [isNext_no (by omega)]
    have i1 : decide (2 ≤ x) = false := decide_eq_false h1
    go_enter Tryz.func89, Tryz.ntmps89
    go_wp2
    go_ret
    exact ⟨rfl, rfl⟩

set_option maxHeartbeats 1000000 in
theorem refPages_calls (n : Int) (w : World) :
    Calls Tryz.prog 84 #[.int .i64 n] w fun e w' => e = .returned (.int .i64 (pagesS n : Nat)) ∧ w = w' := by
  by_cases h1 : n ≤ 512
  · rw [show pagesS n = 0 from if_pos (Or.inl h1)]
    go_enter Tryz.func84, Tryz.ntmps84
    go_wp2
    go_ret
    exact ⟨rfl, rfl⟩
  · have i1 : decide (n ≤ 512) = false := decide_eq_false h1
    by_cases h2 : 262144 < n
    · rw [show pagesS n = 0 from if_pos (Or.inr h2)]
      go_enter Tryz.func84, Tryz.ntmps84
      go_wp2
      go_ret
      exact ⟨rfl, rfl⟩
    · have i2 : decide (262144 < n) = false := decide_eq_false h2
      have e : ((pagesS n : Nat) : Int) = (n - 1) / 4085 + 1 := by unfold pagesS; rw [if_neg (by omega)]; omega
      rw [e]
      have i3 : 512 < n := by omega
      have i4 : n ≤ 262144 := by omega
      clear e h1 h2
      go_enter Tryz.func84, Tryz.ntmps84
      go_wp2
      go_ret
      exact ⟨rfl, rfl⟩

set_option maxRecDepth 100000 in
set_option maxHeartbeats 1000000 in
theorem number_calls (x n : Nat) (w : World) (hn : n ≤ 8) (hx : x < 9223372036854775808) :
    Calls Tryz.prog 92 #[.int .i64 (x : Int), .int .i64 (n : Int)] w fun e w' => ∃ A c, e = .returned (.slice A n c) ∧ GB w' w.heap.size A n c (leB x n) ∧ Below w.heap.size w w' := by
  have xi : (x : Int) ≤ 9223372036854775807 := by omega
  clear hx
  go_enter Tryz.func92, Tryz.ntmps92
  go_wp2
  go_loopw [5, 6] (fun bb ii wr => ∃ (k c5 : Nat) (A5 : Option Addr) (ys : List UInt8), k ≤ n ∧ bb = .slice A5 k c5 ∧ ii = .int .i64 (k : Int) ∧ GB wr w.heap.size A5 k c5 ys ∧ Hid (ys = [] ++ leB x k) ∧ Below w.heap.size w wr)
    (fun _ ii _ => n - (intOf ii).toNat)
  case atStart => exact ⟨0, 0, none, [], by omega, rfl, rfl, GB.none_ _ _, by unfold Hid; simp [leB], Below.refl _ _⟩
  case round =>
    obtain ⟨k, c5, A5, ys, hk, rfl, rfl, G, HY, bw⟩ := hrel
    by_cases hlt : k < n
    · obtain ⟨v, hv⟩ : ∃ v, v = x / 256 ^ k := ⟨_, rfl⟩
      have hsh := shift_bytes x k
      rw [← hv] at hsh
      have HV := hideIt hv
      clear hv
      obtain ⟨b, q, hb1, -, HB⟩ := low_byte v
      have H1 := put_step HY HV HB
      have ba := below1 wr (.cells (u8s [b]).toArray 5)
      have Ga := G.below ba
      have q1 := (RB.lit wr [b] 1 rfl (by simp [maxLen])).read
      have b2 := blw_step bw ba
      go_wp2_with (at_builtin; refine wpBG_app rfl _ _ rfl w.heap.size _ _ _ _ rfl Ga _ _ _ [b] rfl q1 (by decide) (by omega) b2.size ?_; intro g4 c4 w4 q4 o4 k4)
      have b4 := GC.under Ga b2 k4 b2.size
      go_roundw
      case rel => exact ⟨k + 1, c4, _, _, by omega, rfl, by go_num, GB.of o4 q4, H1, b4⟩
      case measure => simp [intOf]; omega
    · obtain rfl : n = k := by omega
      go_wp2
      go_ret
      exact ⟨A5, c5, rfl, by rw [← List.nil_append (leB x n), ← HY.out]; exact G, bw⟩

theorem unle_drop2 (l : List UInt8) (k : Nat) (h : k < l.length) : unle (l.drop k) = l[k].toNat + 256 * unle (l.drop (k + 1)) := unle_drop l k h
theorem unle_le (l : List UInt8) (n : Nat) (h : l.length ≤ n) : unle l < 256 ^ n := Nat.lt_of_lt_of_le (unle_lt l) (Nat.pow_le_pow_right (by decide) h)
end Go.Proofs.YtmeakhiiebeneaaGreatDoor
