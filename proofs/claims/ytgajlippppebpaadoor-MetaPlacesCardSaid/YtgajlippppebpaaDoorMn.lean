/- The walks of the laws MetaDecodes, MetaNewers. -/
import Derived.Test.YtgajlippppebpaaDoorMm
namespace Go.Proofs.YtgajlippppebpaaDoor
open Go.RowKit

set_option maxRecDepth 100000 in
set_option maxHeartbeats 4000000 in
theorem MetaDecodes_walk (A : Option Addr) (n c : Nat) (xs : List UInt8) (a : Int) (x : UInt8) (w : World) (hx : RB w A n c xs) (_hb : n ≤ 140737488351232) (_ha : -9223372036854775808 ≤ a ∧ a ≤ 9223372036854775807) (hM : Marks w) :
    Calls Tryd.prog 4 #[.slice A n c, .int .i64 a, .int .u8 (x.toNat : Int)] w fun e w' => e = .returned (.bool true) ∧ Below w.heap.size w w' := by
  by_cases hbig : 65536 < n
  · have hbig' : (65536 : Int) < n := by omega
    go_enter Tryd.func4, Tryd.ntmps4
    go_wp2_with (go_at_call 10; refine (first_calls _ hM).mono ?_; rintro e w1 ⟨rfl, b1⟩)
    go_ret
    exact ⟨rfl, b1⟩
  have hsmall : (n : Int) ≤ 65536 := by omega
  have hN : n + 2 ≤ 70000 := by omega
  clear _hb _ha
  go_enter Tryd.func4, Tryd.ntmps4
  go_upto_region 5 with (go_at_call 10; refine (first_calls _ hM).mono ?_; rintro e w1 ⟨rfl, b1⟩)
  have h1 := hx.below b1
  go_upto_region 6 with (first
    | (at_builtin; have o2' := o2.below (below1 w2 (.cells (u8s [161, 162]).toArray 5)); refine wpB_app rfl _ _ rfl _ _ _ _ rfl o2' _ _ _ [161, 162] rfl (RB.lit w2 [161, 162] 2 rfl (by simp [maxLen])).read (n + 2) rfl (by omega) ?_; intro g4 c4 w4 q4 p4 o4 k4; have lg := o2.lt; have b4 := (b2.alloc b2.size (.cells (u8s [161, 162]).toArray 5)).grown k4 (Nat.le_trans b2.size (by simp)) (by simp; omega))
    | (go_at_call 15; refine (Bytes_calls _ _ _ _ _ h1 (by omega)).mono ?_; rintro en w2 ⟨g2, c2, rfl, s2, o2, x2⟩; have b2 := b1.trans (x2.mono b1.size); have s2' := Nat.le_trans b1.size s2))
  have g4w : w.heap.size ≤ g4 := by
    have z2 := b2.size
    rcases q4 with e | e
    · rw [e]; exact s2'
    · simp at e; omega
  clear q4 p4 k4 lg o2 x2 s2 s2' h1 b1 b2
  go_upto_region 7 with (go_at_call 16; refine (decodes_calls _ _ _ n _ _ o4.read (by omega) hN (hM.below b4)).mono ?_; rintro en w5 ⟨rfl, x5⟩)
  have o5 := o4.below x5
  have b5 := b4.trans (x5.mono b4.size)
  clear o4 x5 b4 w4
  rcases Nat.eq_zero_or_pos n with h0 | h0
  · have hn0 : ((n : Int) == 0) = true := by rw [beq_iff_eq]; omega
    clear h0
    go_wp2
    go_ret
    exact ⟨rfl, b5⟩
  obtain ⟨r, q, hr, hr1, hr2, hq, hqn⟩ := place a n h0
  have hn0 : ((n : Int) == 0) = false := by rw [beq_eq_false_iff_ne]; omega
  obtain ⟨b, hb0⟩ : ∃ b, (xs ++ [161, 162]).getD q 0 = b := ⟨_, rfl⟩
  have HB := hideIt hb0
  clear hb0
  have cq := byte_cell o5 (by omega) HB
  have fq := o5.free q
  have o6 := byte_turn o5 q b x
  have b6 := b5.setCell (p := ⟨g4, q, none⟩) g4w (.int .u8 (bits .xor .u8 (b.toNat : Int) (x.toNat : Int)))
  have i1 : (q : Int) < (n : Int) + 2 := by omega
  go_wp2_with (go_at_call 16; refine (decodes_calls _ _ _ n _ _ o6.read (by omega) hN (hM.below b6)).mono ?_; rintro en w7 ⟨rfl, x7⟩)
  go_ret
  exact ⟨rfl, b6.trans (x7.mono b6.size)⟩
end Go.Proofs.YtgajlippppebpaaDoor
