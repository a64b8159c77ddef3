/- coppicelaw1.puts; the walk of the law WirePuts. -/
import Derived.Test.YtnhmilpnekfhmaaVe
namespace Go.Proofs.Ytnhmilpnekfhmaa
open Go.RowKit

set_option maxRecDepth 100000 in
set_option maxHeartbeats 4000000 in
theorem puts_calls (A : Option Addr) (n c : Nat) (xs : List UInt8) (x : Nat) (w : World) (h0 : RB w A n c xs) (hn : n ≤ 100000) (hxx : x < 18446744073709551616) :
    Calls Try.prog 12 #[.slice A n c, .int .u64 (x : Int)] w fun en w' => en = .returned (.bool true) ∧ Below w.heap.size w w' := by
  obtain ⟨y1, hy1⟩ : ∃ y, x % 256 ^ 1 = y := ⟨_, rfl⟩
  obtain ⟨y2, hy2⟩ : ∃ y, x % 256 ^ 2 = y := ⟨_, rfl⟩
  obtain ⟨y4, hy4⟩ : ∃ y, x % 256 ^ 4 = y := ⟨_, rfl⟩
  have e1 : leB y1 1 = leB x 1 := by rw [← hy1]; exact leB_mod x 1 1 (Nat.le_refl _)
  have e2 : leB y2 2 = leB x 2 := by rw [← hy2]; exact leB_mod x 2 2 (Nat.le_refl _)
  have e4 : leB y4 4 = leB x 4 := by rw [← hy4]; exact leB_mod x 4 4 (Nat.le_refl _)
  have E1 := hideIt e1
  have E2 := hideIt e2
  have E4 := hideIt e4
  have l1 : y1 < 256 ^ 1 := by rw [← hy1]; exact Nat.mod_lt _ (by decide)
  have l2 : y2 < 256 ^ 2 := by rw [← hy2]; exact Nat.mod_lt _ (by decide)
  have l4 : y4 < 256 ^ 4 := by rw [← hy4]; exact Nat.mod_lt _ (by decide)
  have l8 : x < 256 ^ 8 := Nat.lt_of_lt_of_le hxx (by decide)
  have L1 := hideIt l1
  have L2 := hideIt l2
  have L4 := hideIt l4
  have L8 := hideIt l8
  have LX := hideIt hxx
  have c1 : (x : Int) % 256 = (y1 : Int) := by rw [← hy1, show 256 ^ 1 = 256 from rfl]; omega
  have c2 : IntKind.u16.wrap (x : Int) = (y2 : Int) := by rw [← hy2, show 256 ^ 2 = 65536 from rfl, IntKind.wrap_u16]; omega
  have c4 : IntKind.u32.wrap (x : Int) = (y4 : Int) := by rw [← hy4, show 256 ^ 4 = 4294967296 from rfl, IntKind.wrap_u32]; omega
  have b0 := Below.refl w.heap.size w
  clear e1 e2 e4 l1 l2 l4 l8 hxx hy1 hy2 hy4
  go_enter Try.func12, Try.ntmps12
  go_upto_region 2 with (go_at_call 30; (with_reducible refine (Put8_calls _ _ _ _ y1 _ h0 (by omega) L1.out).mono ?_); rintro en w1 ⟨g1, d1, rfl, s1, o1, x1⟩)
  rw [E1.out] at o1
  have h1 := h0.below x1
  have b1 := b0.trans (x1.mono b0.size)
  clear h0 b0 x1  s1
  have q1_1 := o1.read
  clear o1
  go_upto_region 3 with (go_at_call 28; (with_reducible refine (Put16_calls _ _ _ _ y2 _ h1 (by omega) L2.out).mono ?_); rintro en w2 ⟨g2, d2, rfl, s2, o2, x2⟩)
  rw [E2.out] at o2
  have h2 := h1.below x2
  have q1_2 := q1_1.below x2
  have b2 := b1.trans (x2.mono b1.size)
  clear h1 b1 x2 q1_1 s2
  have q2_2 := o2.read
  clear o2
  go_upto_region 4 with (go_at_call 31; (with_reducible refine (Put32_calls _ _ _ _ y4 _ h2 (by omega) L4.out).mono ?_); rintro en w3 ⟨g3, d3, rfl, s3, o3, x3⟩)
  rw [E4.out] at o3
  have h3 := h2.below x3
  have q1_3 := q1_2.below x3
  have q2_3 := q2_2.below x3
  have b3 := b2.trans (x3.mono b2.size)
  clear h2 b2 x3 q1_2 q2_2 s3
  have q3_3 := o3.read
  clear o3
  go_upto_region 5 with (go_at_call 32; (with_reducible refine (Put64_calls _ _ _ _ x _ h3 (by omega) L8.out).mono ?_); rintro en w4 ⟨g4, d4, rfl, s4, o4, x4⟩)
  have h4 := h3.below x4
  have q1_4 := q1_3.below x4
  have q2_4 := q2_3.below x4
  have q3_4 := q3_3.below x4
  have b4 := b3.trans (x4.mono b3.size)
  clear h3 b3 x4 q1_3 q2_3 q3_3 s4
  have q4_4 := o4.read
  clear o4
  go_upto_region 6 with (go_at_call 33; (with_reducible refine (PutWord_calls _ _ _ _ y2 _ h4 (by omega) L2.out).mono ?_); rintro en w5 ⟨g5, d5, rfl, s5, o5, x5⟩)
  rw [E2.out] at o5
  have h5 := h4.below x5
  have q1_5 := q1_4.below x5
  have q2_5 := q2_4.below x5
  have q3_5 := q3_4.below x5
  have q4_5 := q4_4.below x5
  have b5 := b4.trans (x5.mono b4.size)
  clear h4 b4 x5 q1_4 q2_4 q3_4 q4_4 s5
  have q5_5 := o5.read
  clear o5
  go_upto_region 7 with (go_at_call 34; (with_reducible refine (PutLong_calls _ _ _ _ x _ h5 (by omega) L8.out).mono ?_); rintro en w6 ⟨g6, d6, rfl, s6, o6, x6⟩)
  have h6 := h5.below x6
  have q1_6 := q1_5.below x6
  have q2_6 := q2_5.below x6
  have q3_6 := q3_5.below x6
  have q4_6 := q4_5.below x6
  have q5_6 := q5_5.below x6
  have b6 := b5.trans (x6.mono b5.size)
  clear h5 b5 x6 q1_5 q2_5 q3_5 q4_5 q5_5 s6
  have q6_6 := o6.read
  clear o6
  go_upto_region 8 with (go_at_call 17; refine (PutV_calls _ _ _ _ x _ h6 (by omega) LX.out).mono ?_; rintro en w7 ⟨g7, m7, d7, rfl, s7, o7, x7⟩)
  have h7 := h6.below x7
  have q1_7 := q1_6.below x7
  have q2_7 := q2_6.below x7
  have q3_7 := q3_6.below x7
  have q4_7 := q4_6.below x7
  have q5_7 := q5_6.below x7
  have q6_7 := q6_6.below x7
  have b7 := b6.trans (x7.mono b6.size)
  clear h6 b6 x7 q1_6 q2_6 q3_6 q4_6 q5_6 q6_6 s7
  have q7_7 := o7.read
  clear o7
  go_upto_region 9 with (first
    | (go_at_call 13; (with_reducible refine (SameBytes_calls _ _ _ _ _ _ _ _ _ q1_8 o8.read true (by simp)).mono ?_); rintro en wx ⟨rfl, rfl⟩)
    | (go_at_call 35; refine (refPut_calls _ _ _ _ x 1 _ h7 (by omega) (by omega) LX.out).mono ?_; rintro en w8 ⟨g8, d8, rfl, s8, o8, x8⟩; have h8 := h7.below x8; have q1_8 := q1_7.below x8; have q2_8 := q2_7.below x8; have q3_8 := q3_7.below x8; have q4_8 := q4_7.below x8; have q5_8 := q5_7.below x8; have q6_8 := q6_7.below x8; have q7_8 := q7_7.below x8; have b8 := b7.trans (x8.mono b7.size)))
  clear h7 b7 x8 q1_7 q2_7 q3_7 q4_7 q5_7 q6_7 q7_7 s8 o8
  go_upto_region 10 with (first
    | (go_at_call 13; (with_reducible refine (SameBytes_calls _ _ _ _ _ _ _ _ _ q5_9 q2_9 true (by simp)).mono ?_); rintro en wx ⟨rfl, rfl⟩)
    | (go_at_call 13; (with_reducible refine (SameBytes_calls _ _ _ _ _ _ _ _ _ q2_9 o9.read true (by simp)).mono ?_); rintro en wx ⟨rfl, rfl⟩)
    | (go_at_call 35; refine (refPut_calls _ _ _ _ x 2 _ h8 (by omega) (by omega) LX.out).mono ?_; rintro en w9 ⟨g9, d9, rfl, s9, o9, x9⟩; have h9 := h8.below x9; have q1_9 := q1_8.below x9; have q2_9 := q2_8.below x9; have q3_9 := q3_8.below x9; have q4_9 := q4_8.below x9; have q5_9 := q5_8.below x9; have q6_9 := q6_8.below x9; have q7_9 := q7_8.below x9; have b9 := b8.trans (x9.mono b8.size)))
  clear h8 b8 x9 q1_8 q2_8 q3_8 q4_8 q5_8 q6_8 q7_8 s9 o9
  go_upto_region 11 with (first
    | (go_at_call 13; (with_reducible refine (SameBytes_calls _ _ _ _ _ _ _ _ _ q3_10 o10.read true (by simp)).mono ?_); rintro en wx ⟨rfl, rfl⟩)
    | (go_at_call 35; refine (refPut_calls _ _ _ _ x 4 _ h9 (by omega) (by omega) LX.out).mono ?_; rintro en w10 ⟨g10, d10, rfl, s10, o10, x10⟩; have h10 := h9.below x10; have q1_10 := q1_9.below x10; have q2_10 := q2_9.below x10; have q3_10 := q3_9.below x10; have q4_10 := q4_9.below x10; have q5_10 := q5_9.below x10; have q6_10 := q6_9.below x10; have q7_10 := q7_9.below x10; have b10 := b9.trans (x10.mono b9.size)))
  clear h9 b9 x10 q1_9 q2_9 q3_9 q4_9 q5_9 q6_9 q7_9 s10 o10
  go_upto_region 12 with (first
    | (go_at_call 13; (with_reducible refine (SameBytes_calls _ _ _ _ _ _ _ _ _ q6_11 q4_11 true (by simp)).mono ?_); rintro en wx ⟨rfl, rfl⟩)
    | (go_at_call 13; (with_reducible refine (SameBytes_calls _ _ _ _ _ _ _ _ _ q4_11 o11.read true (by simp)).mono ?_); rintro en wx ⟨rfl, rfl⟩)
    | (go_at_call 35; refine (refPut_calls _ _ _ _ x 8 _ h10 (by omega) (by omega) LX.out).mono ?_; rintro en w11 ⟨g11, d11, rfl, s11, o11, x11⟩; have h11 := h10.below x11; have q1_11 := q1_10.below x11; have q2_11 := q2_10.below x11; have q3_11 := q3_10.below x11; have q4_11 := q4_10.below x11; have q5_11 := q5_10.below x11; have q6_11 := q6_10.below x11; have q7_11 := q7_10.below x11; have b11 := b10.trans (x11.mono b10.size)))
  clear h10 b10 x11 q1_10 q2_10 q3_10 q4_10 q5_10 q6_10 q7_10 s11 o11
  go_upto_region 13 with (first
    | (go_at_call 13; (with_reducible refine (SameBytes_calls _ _ _ _ _ _ _ _ _ q7_12 o12.read true (by simp)).mono ?_); rintro en wx ⟨rfl, rfl⟩)
    | (go_at_call 36; refine (refPutV_calls _ _ _ _ x _ h11 (by omega) LX.out).mono ?_; rintro en w12 ⟨g12, m12, d12, rfl, s12, o12, x12⟩; have h12 := h11.below x12; have q7_12 := q7_11.below x12; have b12 := b11.trans (x12.mono b11.size)))
  go_wp2_with (first
    | (go_at_call 37; refine (refVLen_calls x _ LX.out).mono ?_; rintro en wx ⟨rfl, rfl⟩)
    | (go_at_call 18; refine (VLen_calls x _ LX.out).mono ?_; rintro en wx ⟨rfl, rfl⟩))
  go_ret
  exact ⟨ret_bool (by simp), b12⟩

set_option maxRecDepth 100000 in
set_option maxHeartbeats 4000000 in
theorem WirePuts_walk (A : Option Addr) (n c : Nat) (xs : List UInt8) (x : Nat) (w : World) (hx : RB w A n c xs) (_hb : n ≤ 140737488351232) (hxx : x < 18446744073709551616) :
    Calls Try.prog 3 #[.slice A n c, .int .u64 (x : Int)] w fun e w' => e = .returned (.bool true) ∧ Below w.heap.size w w' := by
  by_cases hbig : 65536 < n
  · have hbig' : (65536 : Int) < n := by omega
    go_enter Try.func3, Try.ntmps3
    go_wp2_with (go_at_call 10; refine (first_calls _).mono ?_; rintro e w1 ⟨rfl, b1⟩)
    go_ret
    exact ⟨rfl, b1⟩
  have hsmall : (n : Int) ≤ 65536 := by omega
  have hN : n ≤ 65536 := by omega
  have LX := hideIt hxx
  clear _hb hbig hxx
  go_enter Try.func3, Try.ntmps3
  go_upto_region 4 with (go_at_call 10; refine (first_calls _).mono ?_; rintro e w1 ⟨rfl, b1⟩)
  have h1 := hx.below b1
  go_upto_region 6 with (go_at_call 11; refine (room_calls _ _ _ _ _ h1 (by omega)).mono ?_; rintro e w2 ⟨g, c2, rfl, s2, o2, x2⟩)
  have h2 := h1.below x2
  have b2 := b1.trans (x2.mono b1.size)
  have gw := Nat.le_trans b1.size s2
  have f2 := o2.read.front (n := n) (by omega)
  have hc2 := OC.le o2
  have i1 : (n : Int) ≤ (n : Int) + 3 := by omega
  have i2 : (n : Int) + 3 ≤ (c2 : Int) := by omega
  have i3 : (n : Int) ≤ (c2 : Int) := by omega
  clear h1 b1 x2 s2
  go_upto_region 7 with (go_at_call 12; refine (puts_calls _ _ _ _ x _ f2 (by omega) LX.out).mono ?_; rintro e w3 ⟨rfl, x3⟩)
  have h3 := h2.below x3
  have o3 := o2.below x3
  have b3 := b2.trans (x3.mono b2.size)
  clear h2 b2 x3 f2 o2
  go_upto_region 9 with (first
    | (go_at_call 13; refine (SameBytes_calls _ _ _ _ _ _ _ _ _ o4.read q4.read true (by simp)).mono ?_; rintro e wx ⟨rfl, rfl⟩)
    | (go_at_call 11; refine (room_calls _ _ _ _ _ h3 (by omega)).mono ?_; rintro e w4 ⟨g4, d4, rfl, s4, q4, x4⟩; have o4 := o3.below x4; have b4 := b3.trans (x4.mono b3.size)))
  clear h3 o3 b3 x4 s4 q4
  go_loopw [9] (fun ii wr => ∃ (i : Nat) (ys : List UInt8), i ≤ n ∧ ii = .int .i64 (i : Int) ∧ OB wr g (n + 3) c2 ys ∧ Below w.heap.size w wr)
    (fun ii _ => n - (intOf ii).toNat)
  case atStart => exact ⟨0, _, by omega, rfl, o4, b4⟩
  case round =>
    obtain ⟨i, ys, hi, rfl, oy, by_⟩ := hrel
    by_cases hlt : i < n
    · obtain ⟨b, hb0⟩ : ∃ b, ys.getD i 0 = b := ⟨_, rfl⟩
      have HB := hideIt hb0
      clear hb0
      have cq := byte_cell oy (by omega) HB
      have fq := oy.free i
      have e55 : bits .xor .u8 (b.toNat : Int) 85 = (((b ^^^ 85 : UInt8)).toNat : Int) := bits_xor8 b 85
      have o6 := oy.set i (b ^^^ 85)
      have b6 := by_.setCell (p := ⟨g, i, none⟩) gw (.int .u8 (((b ^^^ 85 : UInt8)).toNat : Int))
      have i4 : (i : Int) < (n : Int) + 3 := by omega
      go_wp2
      go_roundw
      case rel => exact ⟨i + 1, _, by omega, by go_num, o6, b6⟩
      case measure => simp [intOf]; omega
    · obtain rfl : i = n := by omega
      have f5 := oy.read.front (n := i) (by omega)
      go_wp2_with (go_at_call 12; refine (puts_calls _ _ _ _ x _ f5 (by omega) LX.out).mono ?_; rintro e w7 ⟨rfl, x7⟩)
      go_ret
      exact ⟨rfl, by_.trans (x7.mono by_.size)⟩
end Go.Proofs.Ytnhmilpnekfhmaa
