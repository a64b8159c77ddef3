/- coppicelaw4.decodes, coppicelaw4.LeafDecodes. -/
import Derived.Test.YtenalocpmigppaaFr
namespace Go.Proofs.Ytenalocpmigppaa
open Go.RowKit

theorem DecOut.anyT {B : List UInt8} {w w' : World} {en : Ending} (q : DecOut B w en w') : ∃ (zs : List Cel) (A : Option Addr) (n c : Nat), en = .returned (.tuple #[.slice A n c, .int .i64 (if decT B = none then 40 else 0)]) ∧ OT w' w.heap.size A n c zs ∧ its zs = (decT B).getD [] ∧ Below w.heap.size w w' := by
  obtain ⟨A, n, c, zs, e, o, hd, hn, b⟩ := q
  refine ⟨zs, A, n, c, e, o, ?_, b⟩
  by_cases h : decT B = none
  · obtain rfl := hn h
    have : zs = [] := List.eq_nil_of_length_eq_zero o.n
    rw [this, h]; rfl
  · rw [if_neg h] at hd
    rw [hd]; rfl

set_option maxRecDepth 100000 in
set_option maxHeartbeats 4000000 in
theorem decodes_calls (g N c n : Nat) (ys : List UInt8) (w : World) (hx : RB w (some ⟨g, 0, none⟩) N c ys) (hn : n ≤ N) (hN : N ≤ 70000) :
    Calls Try.prog 22 #[.slice (some ⟨g, 0, none⟩) N c, .int .i64 (n : Int)] w fun en w' => en = .returned (.bool true) ∧ Below w.heap.size w w' := by
  have hc := RC.le hx
  have i1 : (n : Int) ≤ N := by omega
  have i2 : (N : Int) ≤ c := by omega
  have i3 : (n : Int) ≤ c := by omega
  obtain ⟨E, hE⟩ : ∃ E : Int, (if decT (ys.take n) = none then 40 else 0) = E := ⟨_, rfl⟩
  obtain ⟨L, hL⟩ : ∃ L, (decT (ys.take n)).getD [] = L := ⟨_, rfl⟩
  go_enter Try.func22, Try.ntmps22
  go_upto_region 2 with (go_at_call 21; refine (Bytes_calls _ _ _ _ _ hx (by omega)).mono ?_; rintro en w1 ⟨g1, c1, rfl, s1, o1, x1⟩)
  have h1 := hx.below x1
  have f1 := h1.front hn
  have D := Decode_calls _ _ _ _ w1 f1
  go_upto_region 3 with (go_at_call 25; (with_reducible refine D.mono ?_); intro en w2 qd; obtain ⟨zs, A2, n2, c2, rfl, o2, hz2, x2⟩ := qd.anyT)
  rw [hL] at hz2
  have b2 := blw_step x1 x2
  have oo2 := o1.below x2
  have h2 := h1.below x2
  clear qd D f1 h1 o1 x1 x2 s1
  have t3 := oo2.read.take n hn
  have D := refDecode_calls _ _ _ _ w2 t3
  have hcc := OC.le oo2
  have i4 : (n : Int) ≤ c1 := by omega
  go_upto_region 5 with (first
    | (go_at_call 42; (with_reducible refine D.mono ?_); intro en w3 qd; obtain ⟨zs3, A3, n3, c3, rfl, o3, hz3, x3⟩ := qd.anyT)
    | (go_at_call 27; refine (SameBytes_calls _ _ _ _ _ _ _ _ _ h2 oo2.read true (by simp)).mono ?_; rintro en w5 ⟨rfl, rfl⟩))
  rw [hL] at hz3
  have b3 := blw_step b2 x3
  have S := SameItems_calls _ _ _ _ _ _ _ _ _ _ _ (o2.below x3).read o3.read true (by simp [hz2, hz3])
  have ee : (E == E) = true := beq_self_eq_true E
  clear qd D t3 oo2 h2 b2 x3 o2 o3 hE hL
  go_wp2_with (first
    | (go_at_call 24; refine (num_calls _ _).mono ?_; rintro en wx ⟨rfl, rfl⟩)
    | (go_at_call 26; refine S.mono ?_; rintro en w4 ⟨rfl, x4⟩; have b4 := blw_step b3 x4))
  go_ret
  exact ⟨rfl, b4⟩

set_option maxRecDepth 100000 in
set_option maxHeartbeats 4000000 in
theorem LeafDecodes_walk (A : Option Addr) (n c : Nat) (xs : List UInt8) (a : Int) (x : UInt8) (w : World) (hx : RB w A n c xs) (_hb : n ≤ 140737488351232) (_ha : -9223372036854775808 ≤ a ∧ a ≤ 9223372036854775807) :
    Calls Try.prog 5 #[.slice A n c, .int .i64 a, .int .u8 (x.toNat : Int)] w fun e w' => e = .returned (.bool true) ∧ Below w.heap.size w w' := by
  by_cases hbig : 65536 < n
  · have hbig' : (65536 : Int) < n := by omega
    go_enter Try.func5, Try.ntmps5
    go_wp2_with (go_at_call 11; refine (first_calls _).mono ?_; rintro e w1 ⟨rfl, b1⟩)
    go_ret
    exact ⟨rfl, b1⟩
  have hsmall : (n : Int) ≤ 65536 := by omega
  have hN : n + 2 ≤ 70000 := by omega
  clear _hb _ha
  go_enter Try.func5, Try.ntmps5
  go_upto_region 5 with (go_at_call 11; refine (first_calls _).mono ?_; rintro e w1 ⟨rfl, b1⟩)
  have h1 := hx.below b1
  go_upto_region 6 with (first
    | (at_builtin; have o2' := o2.below (below1 w2 (.cells (u8s [161, 162]).toArray 5)); refine wpB_app rfl _ _ rfl _ _ _ _ rfl o2' _ _ _ [161, 162] rfl (RB.lit w2 [161, 162] 2 rfl (by simp [maxLen])).read (n + 2) rfl (by omega) ?_; intro g4 c4 w4 q4 p4 o4 k4; have lg := o2.lt; have b4 := (b2.alloc b2.size (.cells (u8s [161, 162]).toArray 5)).grown k4 (Nat.le_trans b2.size (by simp)) (by simp; omega))
    | (go_at_call 21; refine (Bytes_calls _ _ _ _ _ h1 (by omega)).mono ?_; rintro en w2 ⟨g2, c2, rfl, s2, o2, x2⟩; have b2 := b1.trans (x2.mono b1.size); have s2' := Nat.le_trans b1.size s2))
  have g4w : w.heap.size ≤ g4 := by
    have z2 := b2.size
    rcases q4 with e | e
    · rw [e]; exact s2'
    · simp at e; omega
  clear q4 p4 k4 lg o2 x2 s2 s2' h1 b1 b2
  go_upto_region 7 with (go_at_call 22; refine (decodes_calls _ _ _ n _ _ o4.read (by omega) hN).mono ?_; rintro en w5 ⟨rfl, x5⟩)
  have o5 := o4.below x5
  have b5 := b4.trans (x5.mono b4.size)
  clear o4 x5 b4 w4
  rcases Nat.eq_zero_or_pos n with h0 | h0
  · have hn0 : ((n : Int) == 0) = true := by rw [beq_iff_eq]; omega
    clear h0
    go_wp2
    go_ret
    exact ⟨rfl, b5⟩
  obtain ⟨r, q, hr, hr1, hr2, hq, hqn⟩ := place a n h0
  have hn0 : ((n : Int) == 0) = false := by rw [beq_eq_false_iff_ne]; omega
  obtain ⟨b, hb0⟩ : ∃ b, (xs ++ [161, 162]).getD q 0 = b := ⟨_, rfl⟩
  have HB := hideIt hb0
  clear hb0
  have cq := byte_cell o5 (by omega) HB
  have fq := o5.free q
  have o6 := byte_turn o5 q b x
  have b6 := b5.setCell (p := ⟨g4, q, none⟩) g4w (.int .u8 (bits .xor .u8 (b.toNat : Int) (x.toNat : Int)))
  have i1 : (q : Int) < (n : Int) + 2 := by omega
  go_wp2_with (go_at_call 22; refine (decodes_calls _ _ _ n _ _ o6.read (by omega) hN).mono ?_; rintro en w7 ⟨rfl, x7⟩)
  go_ret
  exact ⟨rfl, b6.trans (x7.mono b6.size)⟩
end Go.Proofs.Ytenalocpmigppaa
