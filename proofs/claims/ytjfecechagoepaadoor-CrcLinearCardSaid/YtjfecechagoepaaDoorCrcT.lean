/- The contract of turned: bits of a pattern turned in new memory. -/
import Derived.Test.YtjfecechagoepaaDoorCrcU
namespace Go.Proofs.YtjfecechagoepaaDoor
open Go.RowKit

theorem n32_bit (p : BitVec 32) (k : Nat) : n32 p / (2 : Int) ^ k % (2 : Int) = if p.toNat.testBit k then 1 else 0 := by
  unfold n32
  have h : p.toNat.testBit k = decide (p.toNat / 2 ^ k % 2 = 1) := by rw [Nat.testBit_eq_decide_div_mod_eq]
  have e : ((p.toNat : Int) / (2 : Int) ^ k % 2) = ((p.toNat / 2 ^ k % 2 : Nat) : Int) := by
    rw [Int.natCast_emod, Int.natCast_ediv, Int.natCast_pow]; rfl
  rw [e, h]
  have : p.toNat / 2 ^ k % 2 < 2 := Nat.mod_lt _ (by decide)
  by_cases e1 : p.toNat / 2 ^ k % 2 = 1
  · simp [e1]
  · have : p.toNat / 2 ^ k % 2 = 0 := by omega
    simp [this]

theorem tog_set {w : World} {g n c : Nat} {ys : List UInt8} {i : Nat} (h : OB w g n c ys) (hq : i / 8 < ys.length) :
    OB (w.setCell ⟨g, i / 8, none⟩ (.int .u8 (bits .xor .u8 ((ys[i / 8]).toNat : Int) (2 ^ (i % 8) % 256)))) g n c (Crc.tog ys i) := by
  have e : ((2 : Int) ^ (i % 8) % 256) = ((Crc.bit8 i).toNat : Int) := by
    unfold Crc.bit8
    rw [UInt8.toNat_ofNat', Int.natCast_emod, Int.natCast_pow]; rfl
  have e2 : Crc.tog ys i = ys.set (i / 8) (ys[i / 8] ^^^ Crc.bit8 i) := by
    unfold Crc.tog
    rw [List.getD_eq_getElem?_getD, List.getElem?_eq_getElem hq]; rfl
  rw [e, bits_xor8, e2]
  exact h.set (i / 8) _
theorem togs_step (p t k : Nat) (ys : List UInt8) {zs : List UInt8} (hk : k < 32) (h : Hid (Crc.togs p t (32 - k) k ys = zs)) :
    Hid (Crc.togs p t (32 - (k + 1)) (k + 1) (if p.testBit k ∧ t + k < 8 * ys.length then Crc.tog ys (t + k) else ys) = zs) := by
  have e : 32 - k = (32 - (k + 1)) + 1 := by omega
  have h' : Crc.togs p t (32 - k) k ys = zs := h
  rw [e] at h'
  exact h'
theorem some_step (p t m k : Nat) (b : Bool) {c : Bool} (hk : k < 32) (h : Hid (Crc.some_ p t m (32 - k) k b = c)) :
    Hid (Crc.some_ p t m (32 - (k + 1)) (k + 1) (if p.testBit k ∧ t + k < m then true else b) = c) := by
  have e : 32 - k = (32 - (k + 1)) + 1 := by omega
  have h' : Crc.some_ p t m (32 - k) k b = c := h
  rw [e] at h'
  exact h'

set_option maxRecDepth 100000 in
set_option maxHeartbeats 2000000 in
theorem turned_calls (A : Option Addr) (n c : Nat) (xs : List UInt8) (t : Nat) (p : BitVec 32) (w : World) (hx : RB w A n c xs) (hb : n ≤ 65536) (ht : t ≤ 8 * n) :
    Calls Tryd.prog 28 #[.slice A n c, .int .i64 (t : Int), .int .u32 (n32 p)] w fun e w' => ∃ g c', e = .returned (.tuple #[.slice (some ⟨g, 0, none⟩) n c', .bool (Crc.some_ p.toNat t (8 * n) 32 0 false)]) ∧ w.heap.size ≤ g ∧ OB w' g n c' (Crc.togs p.toNat t 32 0 xs) ∧ Below w.heap.size w w' := by
  have HL := hideIt hx.len
  have hn := n32_nonneg p
  have hle := n32_le p
  go_enter Tryd.func28, Tryd.ntmps28
  go_wp2_with (go_at_call 18; refine (Bytes_calls _ _ _ _ _ hx (by omega)).mono ?_; rintro e w1 ⟨g, d, rfl, s1, o1, b1⟩)
  go_loopw [9, 10, 11] (fun s kk _ wr => ∃ (k : Nat) (ys : List UInt8) (sb : Bool), k ≤ 32 ∧ kk = .int .i64 k ∧ s = .bool sb ∧ OB wr g n d ys ∧ Hid (Crc.togs p.toNat t (32 - k) k ys = Crc.togs p.toNat t 32 0 xs) ∧ Hid (Crc.some_ p.toNat t (8 * n) (32 - k) k sb = Crc.some_ p.toNat t (8 * n) 32 0 false) ∧ Below w.heap.size w wr)
    (fun _ kk _ _ => 32 - (intOf kk).toNat)
  case atStart => exact ⟨0, xs, false, by omega, rfl, rfl, o1, rfl, rfl, b1⟩
  case round =>
    obtain ⟨k, ys, sb, hk, rfl, rfl, oy, H1, H2, by_⟩ := hrel
    by_cases hlt : k < 32
    · obtain ⟨i, hi⟩ : ∃ i : Nat, (t : Int) + (k : Int) = (i : Int) := ⟨t + k, by omega⟩
      have hi2 : (i : Int) ≤ 600000 := by omega
      have hik : i = t + k := by omega
      have hnn : 0 ≤ n32 p / (2 : Int) ^ k := Int.ediv_nonneg hn (Int.pow_nonneg (by decide))
      have hbit := n32_bit p k
      have hyl := oy.len
      have H1' := togs_step p.toNat t k ys hlt H1
      have H2' := some_step p.toNat t (8 * n) k sb hlt H2
      rw [hyl] at H1'
      rw [← hik] at H1' H2'
      have HIK := hideIt hik
      have HYL := hideIt hyl
      clear hik hyl H1 H2
      by_cases e1 : p.toNat.testBit k = true
      · rw [e1, if_pos rfl, ← Int.tmod_eq_emod_of_nonneg hnn] at hbit
        by_cases h8 : (i : Int) < 8 * (n : Int)
        · have hq : i / 8 < ys.length := by rw [HYL.out]; omega
          have cq := oy.cell _ hq
          have fq := oy.free (i / 8)
          rw [if_pos ⟨e1, by omega⟩] at H1' H2'
          have oy' := tog_set oy hq
          go_wp2
          go_roundw
          case rel => exact ⟨k + 1, Crc.tog ys i, true, by omega, by go_num, rfl, oy', H1', H2', by_.setCell s1 _⟩
          case measure => simp [intOf]; omega
        · rw [if_neg (by omega)] at H1' H2'
          go_wp2
          go_roundw
          case rel => exact ⟨k + 1, ys, sb, by omega, by go_num, rfl, oy, H1', H2', by_⟩
          case measure => simp [intOf]; omega
      · rw [if_neg e1, ← Int.tmod_eq_emod_of_nonneg hnn] at hbit
        rw [if_neg (fun h => e1 h.1)] at H1' H2'
        go_wp2
        go_roundw
        case rel => exact ⟨k + 1, ys, sb, by omega, by go_num, rfl, oy, H1', H2', by_⟩
        case measure => simp [intOf]; omega
    · obtain rfl : k = 32 := by omega
      go_wp2
      go_ret2
      refine ⟨g, d, ?_, s1, ?_, by_⟩
      · rw [← H2.out]; rfl
      · rw [← H1.out]; exact oy
end Go.Proofs.YtjfecechagoepaaDoor
