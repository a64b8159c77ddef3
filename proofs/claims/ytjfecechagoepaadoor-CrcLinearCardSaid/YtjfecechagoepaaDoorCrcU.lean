/- The walks of the laws CrcUpdates, CrcSeals, CrcOpens. -/
import Derived.Test.YtjfecechagoepaaDoorCrcS
namespace Go.Proofs.YtjfecechagoepaaDoor
open Go.RowKit

set_option maxRecDepth 100000 in
set_option maxHeartbeats 1000000 in
theorem CrcUpdates_walk (s : BitVec 32) (A : Option Addr) (n c : Nat) (xs : List UInt8) (a : Int) (x : UInt8) (w : World) (hx : RB w A n c xs) (hb : n ≤ 140737488351232) (_ha : -9223372036854775808 ≤ a ∧ a ≤ 9223372036854775807) (hg : Tab w) :
    Calls Tryd.prog 4 #[.int .u32 (n32 s), .slice A n c, .int .i64 a, .int .u8 (x.toNat : Int)] w fun e w' => e = .returned (.bool true) ∧ Below w.heap.size w w' := by
  by_cases hbig : 65536 < n
  · have hbig' : (65536 : Int) < n := by omega
    go_enter Tryd.func4, Tryd.ntmps4
    go_wp2_with (go_at_call 13; refine (first_calls _ hg).mono ?_; rintro e w1 ⟨rfl, b1⟩)
    go_ret
    exact ⟨rfl, b1⟩
  have hsmall : (n : Int) ≤ 65536 := by omega
  rcases Nat.eq_zero_or_pos n with h0 | h0
  · have hn0 : ((n : Int) == 0) = true := by rw [beq_iff_eq]; omega
    clear h0
    go_enter Tryd.func4, Tryd.ntmps4
    go_wp2_with (first
      | (go_at_call 17; refine (still_calls _ _ _ _ _ _ _ o2.read h2 hb).mono ?_; rintro e w3 ⟨rfl, rfl⟩)
      | (go_at_call 20; refine (refUpdate_calls _ _ _ _ _ _ h2 hb).mono ?_; rintro e w3 ⟨rfl, rfl⟩)
      | (go_at_call 19; refine (Update_calls _ _ _ _ _ _ (turn_read o2) hb (hg.below b2)).mono ?_; rintro e w3 ⟨rfl, rfl⟩)
      | (go_at_call 14; refine (room_calls _ _ _ _ _ h1 hb).mono ?_; rintro e w2 ⟨g2, c2, rfl, s2, o2, b2'⟩; have b2 := b1.trans (b2'.mono b1.size); have h2 := hx.below b2; have l2 := room_le o2)
      | (go_at_call 13; refine (first_calls _ hg).mono ?_; rintro e w1 ⟨rfl, b1⟩; have h1 := hx.below b1))
    go_ret
    exact ⟨rfl, b2⟩
  obtain ⟨r, q, hr, hr1, hr2, hq, hqn⟩ := place a n h0
  have hn0 : ((n : Int) == 0) = false := by rw [beq_eq_false_iff_ne]; omega
  obtain ⟨b, hb0⟩ : ∃ b, xs.getD q 0 = b := ⟨_, rfl⟩
  have HB := hideIt hb0
  have HL := hideIt hx.len
  clear hb0
  go_enter Tryd.func4, Tryd.ntmps4
  go_wp2_with (first
    | (go_at_call 20; refine (refUpdate_calls _ _ _ _ _ _ o4.read hb).mono ?_; rintro e w5 ⟨rfl, rfl⟩)
    | (go_at_call 19; refine (Update_calls _ _ _ _ _ _ r4 hb (hg.below b4)).mono ?_; rintro e w5 ⟨rfl, rfl⟩)
    | (go_at_call 18; refine (Bytes_calls _ _ _ _ _ (turn_read o3) hb).mono ?_; rintro e w4 ⟨g4, c4, rfl, s4, o4, b4'⟩; have b4 := b3.trans (b4'.mono b3.size); have r4 := turn_read (o3.below b4'))
    | (go_at_call 17; refine (still_calls _ _ _ _ _ _ _ o2.read h2 hb).mono ?_; rintro e w3 ⟨rfl, rfl⟩; have cq := turn_cell o2 h2 hqn HB; have fq := o2.free q; have o3 := turn_set o2 HL.out hqn b x; have b3 := b2.setCell (p := ⟨g2, q, none⟩) (Nat.le_trans b1.size s2) (.int .u8 (bits .xor .u8 (b.toNat : Int) (x.toNat : Int))))
    | (go_at_call 20; refine (refUpdate_calls _ _ _ _ _ _ h2 hb).mono ?_; rintro e w3 ⟨rfl, rfl⟩)
    | (go_at_call 19; refine (Update_calls _ _ _ _ _ _ (turn_read o2) hb (hg.below b2)).mono ?_; rintro e w3 ⟨rfl, rfl⟩)
    | (go_at_call 14; refine (room_calls _ _ _ _ _ h1 hb).mono ?_; rintro e w2 ⟨g2, c2, rfl, s2, o2, b2'⟩; have b2 := b1.trans (b2'.mono b1.size); have h2 := hx.below b2; have l2 := room_le o2)
    | (go_at_call 13; refine (first_calls _ hg).mono ?_; rintro e w1 ⟨rfl, b1⟩; have h1 := hx.below b1))
  go_ret
  exact ⟨rfl, b4⟩

set_option maxRecDepth 100000 in
set_option maxHeartbeats 1000000 in
theorem CrcSeals_walk (A : Option Addr) (n c : Nat) (xs : List UInt8) (a : Int) (x : UInt8) (w : World) (hx : RB w A n c xs) (hb : n ≤ 140737488351232) (_ha : -9223372036854775808 ≤ a ∧ a ≤ 9223372036854775807) (hg : Tab w) :
    Calls Tryd.prog 5 #[.slice A n c, .int .i64 a, .int .u8 (x.toNat : Int)] w fun e w' => e = .returned (.bool true) ∧ Below w.heap.size w w' := by
  by_cases hbig : 65536 < n
  · have hbig' : (65536 : Int) < n := by omega
    go_enter Tryd.func5, Tryd.ntmps5
    go_wp2_with (go_at_call 13; refine (first_calls _ hg).mono ?_; rintro e w1 ⟨rfl, b1⟩)
    go_ret
    exact ⟨rfl, b1⟩
  have hsmall : (n : Int) ≤ 65536 := by omega
  rcases Nat.eq_zero_or_pos n with h0 | h0
  · have hn0 : ((n : Int) == 0) = true := by rw [beq_iff_eq]; omega
    clear h0
    go_enter Tryd.func5, Tryd.ntmps5
    go_wp2_with (first
      | (go_at_call 24; refine (num_calls _ _).mono ?_; rintro e w6 ⟨rfl, rfl⟩)
      | (go_at_call 17; refine (still_calls _ _ _ _ _ _ _ o4.read h4 hb).mono ?_; rintro e w5 ⟨rfl, rfl⟩)
      | (go_at_call 23; refine (SameBytes_calls _ _ _ _ _ _ _ _ _ r34 r4 true (by simp)).mono ?_; rintro e w5 ⟨rfl, rfl⟩)
      | (go_at_call 22; refine (refSeal_any _ _ _ _ _ h3).mono ?_; rintro e w4 ⟨A4, n4, c4, rfl, r4, b4'⟩; have b4 := b3.trans (b4'.mono b3.size); have o4 := o3.below b4'; have h4 := hx.below b4; have r34 := r3.below b4')
      | (go_at_call 21; refine (Seal_any _ _ _ _ _ (turn_read o2) (hg.below b2)).mono ?_; rintro e w3 ⟨A3, n3, c3, rfl, r3, b3'⟩; have b3 := b2.trans (b3'.mono b2.size); have o3 := o2.below b3'; have h3 := hx.below b3)
      | (go_at_call 14; refine (room_calls _ _ _ _ _ h1 hb).mono ?_; rintro e w2 ⟨g2, c2, rfl, s2, o2, b2'⟩; have b2 := b1.trans (b2'.mono b1.size); have h2 := hx.below b2; have l2 := room_le o2)
      | (go_at_call 13; refine (first_calls _ hg).mono ?_; rintro e w1 ⟨rfl, b1⟩; have h1 := hx.below b1))
    go_ret
    exact ⟨rfl, b4⟩
  obtain ⟨r, q, hr, hr1, hr2, hq, hqn⟩ := place a n h0
  have hn0 : ((n : Int) == 0) = false := by rw [beq_eq_false_iff_ne]; omega
  obtain ⟨b, hb0⟩ : ∃ b, xs.getD q 0 = b := ⟨_, rfl⟩
  have HB := hideIt hb0
  have HL := hideIt hx.len
  clear hb0
  go_enter Tryd.func5, Tryd.ntmps5
  go_wp2_with (first
    | (go_at_call 24; refine (num_calls _ _).mono ?_; rintro e w9 ⟨rfl, rfl⟩)
    | (go_at_call 23; refine (SameBytes_calls _ _ _ _ _ _ _ _ _ r78 r8 true (by simp)).mono ?_; rintro e w9 ⟨rfl, rfl⟩)
    | (go_at_call 22; refine (refSeal_any _ _ _ _ _ o6'.read).mono ?_; rintro e w8 ⟨A8, n8, c8, rfl, r8, b8'⟩; have b8 := b7.trans (b8'.mono b7.size); have r78 := r7.below b8')
    | (go_at_call 21; refine (Seal_any _ _ _ _ _ r6 (hg.below b6)).mono ?_; rintro e w7 ⟨A7, n7, c7, rfl, r7, b7'⟩; have b7 := b6.trans (b7'.mono b6.size); have o6' := o6.below b7')
    | (go_at_call 18; refine (Bytes_calls _ _ _ _ _ (turn_read o5) hb).mono ?_; rintro e w6 ⟨g6, c6, rfl, s6, o6, b6'⟩; have b6 := b5.trans (b6'.mono b5.size); have r6 := turn_read (o5.below b6'))
    | (go_at_call 17; refine (still_calls _ _ _ _ _ _ _ o4.read h4 hb).mono ?_; rintro e w5 ⟨rfl, rfl⟩; have cq := turn_cell o4 h4 hqn HB; have fq := o4.free q; have o5 := turn_set o4 HL.out hqn b x; have b5 := b4.setCell (p := ⟨g2, q, none⟩) (Nat.le_trans b1.size s2) (.int .u8 (bits .xor .u8 (b.toNat : Int) (x.toNat : Int))))
    | (go_at_call 23; refine (SameBytes_calls _ _ _ _ _ _ _ _ _ r34 r4 true (by simp)).mono ?_; rintro e w5 ⟨rfl, rfl⟩)
    | (go_at_call 22; refine (refSeal_any _ _ _ _ _ h3).mono ?_; rintro e w4 ⟨A4, n4, c4, rfl, r4, b4'⟩; have b4 := b3.trans (b4'.mono b3.size); have o4 := o3.below b4'; have h4 := hx.below b4; have r34 := r3.below b4')
    | (go_at_call 21; refine (Seal_any _ _ _ _ _ (turn_read o2) (hg.below b2)).mono ?_; rintro e w3 ⟨A3, n3, c3, rfl, r3, b3'⟩; have b3 := b2.trans (b3'.mono b2.size); have o3 := o2.below b3'; have h3 := hx.below b3)
    | (go_at_call 14; refine (room_calls _ _ _ _ _ h1 hb).mono ?_; rintro e w2 ⟨g2, c2, rfl, s2, o2, b2'⟩; have b2 := b1.trans (b2'.mono b1.size); have h2 := hx.below b2; have l2 := room_le o2)
    | (go_at_call 13; refine (first_calls _ hg).mono ?_; rintro e w1 ⟨rfl, b1⟩; have h1 := hx.below b1))
  go_ret
  exact ⟨rfl, b8⟩

set_option maxRecDepth 100000 in
set_option maxHeartbeats 1000000 in
theorem opens_calls (A : Option Addr) (n c : Nat) (xs : List UInt8) (a : Int) (x : UInt8) (w : World) (hx : RB w A n c xs) (hb : n ≤ 65536) (hg : Tab w) :
    Calls Tryd.prog 25 #[.slice A n c, .int .i64 a, .int .u8 (x.toNat : Int)] w fun e w' => e = .returned (.bool true) ∧ Below w.heap.size w w' := by
  have b0 := Below.refl w.heap.size w
  rcases Nat.eq_zero_or_pos n with h0 | h0
  · have hn0 : ((n : Int) == 0) = true := by rw [beq_iff_eq]; omega
    clear h0
    go_enter Tryd.func25, Tryd.ntmps25
    go_wp2_with (first
      | (go_at_call 24; refine (num_calls _ _).mono ?_; rintro e w6 ⟨rfl, rfl⟩)
      | (go_at_call 17; refine (still_calls _ _ _ _ _ _ _ o4.read h4 (by omega)).mono ?_; rintro e w5 ⟨rfl, rfl⟩)
      | (go_at_call 23; refine (SameBytes_calls _ _ _ _ _ _ _ _ _ r34 r4 true (by simp)).mono ?_; rintro e w5 ⟨rfl, rfl⟩)
      | (go_at_call 32; refine (refOpen_any _ _ _ _ _ h3).mono ?_; rintro e w4 ⟨A4, n4, c4, rfl, r4, b4'⟩; have b4 := b3.trans (b4'.mono b3.size); have o4 := o3.below b4'; have h4 := hx.below b4; have r34 := r3.below b4')
      | (go_at_call 27; refine (Open_any _ _ _ _ _ (turn_read o2) (hg.below b2)).mono ?_; rintro e w3 ⟨A3, n3, c3, rfl, r3, b3'⟩; have b3 := b2.trans (b3'.mono b2.size); have o3 := o2.below b3'; have h3 := hx.below b3)
      | (go_at_call 14; refine (room_calls _ _ _ _ _ hx (by omega)).mono ?_; rintro e w2 ⟨g2, c2, rfl, s2, o2, b2⟩; have h2 := hx.below b2; have l2 := room_le o2))
    go_ret
    exact ⟨rfl, b4⟩
  obtain ⟨r, q, hr, hr1, hr2, hq, hqn⟩ := place a n h0
  have hn0 : ((n : Int) == 0) = false := by rw [beq_eq_false_iff_ne]; omega
  obtain ⟨b, hb0⟩ : ∃ b, xs.getD q 0 = b := ⟨_, rfl⟩
  have HB := hideIt hb0
  have HL := hideIt hx.len
  clear hb0
  go_enter Tryd.func25, Tryd.ntmps25
  go_wp2_with (first
    | (go_at_call 24; refine (num_calls _ _).mono ?_; rintro e w9 ⟨rfl, rfl⟩)
    | (go_at_call 23; refine (SameBytes_calls _ _ _ _ _ _ _ _ _ r78 r8 true (by simp)).mono ?_; rintro e w9 ⟨rfl, rfl⟩)
    | (go_at_call 32; refine (refOpen_any _ _ _ _ _ o6'.read).mono ?_; rintro e w8 ⟨A8, n8, c8, rfl, r8, b8'⟩; have b8 := b7.trans (b8'.mono b7.size); have r78 := r7.below b8')
    | (go_at_call 27; refine (Open_any _ _ _ _ _ r6 (hg.below b6)).mono ?_; rintro e w7 ⟨A7, n7, c7, rfl, r7, b7'⟩; have b7 := b6.trans (b7'.mono b6.size); have o6' := o6.below b7')
    | (go_at_call 18; refine (Bytes_calls _ _ _ _ _ (turn_read o5) (by omega)).mono ?_; rintro e w6 ⟨g6, c6, rfl, s6, o6, b6'⟩; have b6 := b5.trans (b6'.mono b5.size); have r6 := turn_read (o5.below b6'))
    | (go_at_call 17; refine (still_calls _ _ _ _ _ _ _ o4.read h4 (by omega)).mono ?_; rintro e w5 ⟨rfl, rfl⟩; have cq := turn_cell o4 h4 hqn HB; have fq := o4.free q; have o5 := turn_set o4 HL.out hqn b x; have b5 := b4.setCell (p := ⟨g2, q, none⟩) s2 (.int .u8 (bits .xor .u8 (b.toNat : Int) (x.toNat : Int))))
    | (go_at_call 23; refine (SameBytes_calls _ _ _ _ _ _ _ _ _ r34 r4 true (by simp)).mono ?_; rintro e w5 ⟨rfl, rfl⟩)
    | (go_at_call 32; refine (refOpen_any _ _ _ _ _ h3).mono ?_; rintro e w4 ⟨A4, n4, c4, rfl, r4, b4'⟩; have b4 := b3.trans (b4'.mono b3.size); have o4 := o3.below b4'; have h4 := hx.below b4; have r34 := r3.below b4')
    | (go_at_call 27; refine (Open_any _ _ _ _ _ (turn_read o2) (hg.below b2)).mono ?_; rintro e w3 ⟨A3, n3, c3, rfl, r3, b3'⟩; have b3 := b2.trans (b3'.mono b2.size); have o3 := o2.below b3'; have h3 := hx.below b3)
    | (go_at_call 14; refine (room_calls _ _ _ _ _ hx (by omega)).mono ?_; rintro e w2 ⟨g2, c2, rfl, s2, o2, b2⟩; have h2 := hx.below b2; have l2 := room_le o2))
  go_ret
  exact ⟨rfl, b8⟩

theorem sealR_le (xs : List UInt8) : (sealR xs).length ≤ 4096 := by
  unfold sealR
  split
  · rename_i h; rw [List.length_append, h]; exact Nat.le_refl _
  · simp

set_option maxRecDepth 100000 in
set_option maxHeartbeats 1000000 in
theorem CrcOpens_walk (A : Option Addr) (n c : Nat) (xs : List UInt8) (a : Int) (x : UInt8) (w : World) (hx : RB w A n c xs) (_hb : n ≤ 140737488351232) (_ha : -9223372036854775808 ≤ a ∧ a ≤ 9223372036854775807) (hg : Tab w) :
    Calls Tryd.prog 6 #[.slice A n c, .int .i64 a, .int .u8 (x.toNat : Int)] w fun e w' => e = .returned (.bool true) ∧ Below w.heap.size w w' := by
  by_cases hbig : 65536 < n
  · have hbig' : (65536 : Int) < n := by omega
    go_enter Tryd.func6, Tryd.ntmps6
    go_wp2_with (go_at_call 13; refine (first_calls _ hg).mono ?_; rintro e w1 ⟨rfl, b1⟩)
    go_ret
    exact ⟨rfl, b1⟩
  have hsmall : (n : Int) ≤ 65536 := by omega
  by_cases hs : xs.length = 4092
  · have e1 : sealC xs = 0 := by unfold sealC; rw [if_pos hs]
    clear hs
    go_enter Tryd.func6, Tryd.ntmps6
    go_wp2_with (first
      | (go_at_call 25; refine (opens_calls _ _ _ _ _ _ _ r3 (by have := r3.len; have := sealR_le xs; omega) (hg.below b3)).mono ?_; rintro e w4 ⟨rfl, b4'⟩; have b4 := b3.trans (b4'.mono b3.size))
      | (go_at_call 22; refine (refSeal_any _ _ _ _ _ h2).mono ?_; rintro e w3 ⟨A3, n3, c3, rfl, r3, b3'⟩; have b3 := b2.trans (b3'.mono b2.size))
      | (go_at_call 25; refine (opens_calls _ _ _ _ _ _ _ h1 (by omega) (hg.below b1)).mono ?_; rintro e w2 ⟨rfl, b2'⟩; have b2 := b1.trans (b2'.mono b1.size); have h2 := hx.below b2)
      | (go_at_call 13; refine (first_calls _ hg).mono ?_; rintro e w1 ⟨rfl, b1⟩; have h1 := hx.below b1))
    go_ret
    exact ⟨rfl, b4⟩
  · have e1 : sealC xs = 20 := by unfold sealC; rw [if_neg hs]
    clear hs
    go_enter Tryd.func6, Tryd.ntmps6
    go_wp2_with (first
      | (go_at_call 22; refine (refSeal_any _ _ _ _ _ h2).mono ?_; rintro e w3 ⟨A3, n3, c3, rfl, r3, b3'⟩; have b3 := b2.trans (b3'.mono b2.size))
      | (go_at_call 25; refine (opens_calls _ _ _ _ _ _ _ h1 (by omega) (hg.below b1)).mono ?_; rintro e w2 ⟨rfl, b2'⟩; have b2 := b1.trans (b2'.mono b1.size); have h2 := hx.below b2)
      | (go_at_call 13; refine (first_calls _ hg).mono ?_; rintro e w1 ⟨rfl, b1⟩; have h1 := hx.below b1))
    go_ret
    exact ⟨rfl, b3⟩
end Go.Proofs.YtjfecechagoepaaDoor
