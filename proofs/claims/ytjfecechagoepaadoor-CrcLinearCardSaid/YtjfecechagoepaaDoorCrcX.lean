/- Contracts of the reference's step, Update, Sum, low, and of crc's Sum, mark. -/
import Derived.Test.YtjfecechagoepaaDoorCrcW
namespace Go.Proofs.YtjfecechagoepaaDoor
open Go.RowKit

def by0 (s : BitVec 32) : UInt8 := UInt8.ofNat s.toNat
def by1 (s : BitVec 32) : UInt8 := UInt8.ofNat (s.toNat / 256)
def by2 (s : BitVec 32) : UInt8 := UInt8.ofNat (s.toNat / 65536)
def by3 (s : BitVec 32) : UInt8 := UInt8.ofNat (s.toNat / 16777216)
theorem tail4_by (s : BitVec 32) : Crc.tail4 s = [by0 s, by1 s, by2 s, by3 s] := rfl
theorem n32_by0 (s : BitVec 32) : n32 s % (256 : Int) = ((by0 s).toNat : Int) := by
  unfold n32 by0; rw [UInt8.toNat_ofNat']; omega
theorem n32_by1 (s : BitVec 32) : n32 s / (256 : Int) % (256 : Int) = ((by1 s).toNat : Int) := by
  unfold n32 by1; rw [UInt8.toNat_ofNat']; omega
theorem n32_by2 (s : BitVec 32) : n32 s / (65536 : Int) % (256 : Int) = ((by2 s).toNat : Int) := by
  unfold n32 by2; rw [UInt8.toNat_ofNat']; omega
theorem n32_by3 (s : BitVec 32) : n32 s / (16777216 : Int) % (256 : Int) = ((by3 s).toNat : Int) := by
  unfold n32 by3; rw [UInt8.toNat_ofNat']; omega
theorem n32_by3' (s : BitVec 32) : n32 s / (16777216 : Int) = ((by3 s).toNat : Int) := by
  rw [← n32_by3]; have := s.isLt; unfold n32; omega
theorem u8_idem (b : UInt8) : (b.toNat : Int) % (256 : Int) = (b.toNat : Int) := by have := b.toNat_lt; omega
theorem n32_nonneg (x : BitVec 32) : 0 ≤ n32 x := by unfold n32; omega
theorem n32_le (x : BitVec 32) : n32 x ≤ (4294967295 : Int) := by unfold n32; have := x.isLt; omega
theorem n32_half (x : BitVec 32) : n32 x / (2 : Int) = n32 (x >>> 1) := by
  unfold n32
  rw [BitVec.toNat_ushiftRight, Nat.shiftRight_eq_div_pow]; omega
theorem n32_poly (x : BitVec 32) : bits .xor .u32 (n32 x) (3988292384 : Int) = n32 (x ^^^ Crc.poly) := bits_xor x Crc.poly
theorem n32_not (x : BitVec 32) : (4294967295 : Int) - n32 x = n32 (~~~ x) := by
  unfold n32
  rw [BitVec.toNat_not]
  have := x.isLt
  omega
theorem n32_idem (x : BitVec 32) : n32 x % (4294967296 : Int) = n32 x := by unfold n32; have := x.isLt; omega
theorem n32_odd (x : BitVec 32) : n32 x % (2 : Int) = if x.getLsbD 0 then 1 else 0 := by
  unfold n32
  have h : x.getLsbD 0 = decide (x.toNat % 2 = 1) := by
    rw [← BitVec.testBit_toNat, Nat.testBit_zero]
  rw [h]
  by_cases e : x.toNat % 2 = 1
  · simp [e]; omega
  · simp [e]; omega

section
attribute [local go_sem] bits_xor n32_mod n32_nonneg n32_le n32_half n32_poly n32_not n32_idem

set_option maxHeartbeats 400000 in
theorem step_calls (r : BitVec 32) (w : World) :
    Calls Tryd.prog 29 #[.int .u32 (n32 r)] w fun e w' => e = .returned (.int .u32 (n32 (Crc.step r))) ∧ w = w' := by
  have hodd := n32_odd r
  have hn := n32_nonneg r
  have hle := n32_le r
  by_cases h0 : r.getLsbD 0 = true
  · rw [h0, if_pos rfl] at hodd
    have e : Crc.step r = (r >>> 1) ^^^ Crc.poly := by unfold Crc.step; rw [if_pos h0]
    rw [e]
    clear e h0
    go_enter Tryd.func29, Tryd.ntmps29
    go_wp2
    go_ret
    exact ⟨rfl, rfl⟩
  · rw [if_neg h0] at hodd
    have e : Crc.step r = r >>> 1 := by unfold Crc.step; rw [if_neg h0]
    rw [e]
    clear e h0
    go_enter Tryd.func29, Tryd.ntmps29
    go_wp2
    go_ret
    exact ⟨rfl, rfl⟩

theorem steps_snoc (k : Nat) (x : BitVec 32) : Crc.step (Crc.steps k x) = Crc.steps (k + 1) x := by rw [Crc.steps_add]; rfl

set_option maxHeartbeats 800000 in
theorem refUpdate_calls (r : BitVec 32) (A : Option Addr) (n c : Nat) (xs : List UInt8) (w : World) (hx : RB w A n c xs) (hb : n ≤ 140737488351232) :
    Calls Tryd.prog 20 #[.int .u32 (n32 r), .slice A n c] w fun e w' => e = .returned (.int .u32 (n32 (Crc.update r xs))) ∧ w = w' := by
  have hn := n32_nonneg r
  have hle := n32_le r
  have HL := hideIt hx.len
  go_enter Tryd.func20, Tryd.ntmps20
  go_wp2
  go_loop [5, 6] (fun x i => ∃ k : Nat, k ≤ n ∧ i = .int .i64 k ∧ x = .int .u32 (n32 (Crc.reg (~~~ r) (xs.take k)))) (fun _ i => n - (intOf i).toNat)
  case atStart => exact ⟨0, by omega, rfl, by rw [n32_idem]; rfl⟩
  case round =>
    obtain ⟨k, hk, rfl, rfl⟩ := hrel
    have hn2 := n32_nonneg (Crc.reg (~~~ r) (xs.take k))
    have hle2 := n32_le (Crc.reg (~~~ r) (xs.take k))
    by_cases hlt : k < n
    · have hlx : k < xs.length := by rw [HL.out]; exact hlt
      obtain ⟨ad, rfl, hc0⟩ := hx.addr (by omega)
      have hc := hc0 k hlx
      clear hc0
      go_wp2
      go_loop [5, 7] (fun x i => ∃ j : Nat, j ≤ 8 ∧ i = .int .i64 j ∧ x = .int .u32 (n32 (Crc.steps j (Crc.reg (~~~ r) (xs.take k) ^^^ Crc.byte xs[k])))) (fun _ i => 8 - (intOf i).toNat)
      case atStart => exact ⟨0, by omega, rfl, rfl⟩
      case round =>
        obtain ⟨j, hj, rfl, rfl⟩ := hrel
        by_cases hj8 : j < 8
        · go_wp2_with (go_at_call 29; refine (step_calls _ _).mono ?_; rintro e w' ⟨rfl, rfl⟩)
          go_round
          case rel => exact ⟨j + 1, by omega, by go_num, by rw [steps_snoc]⟩
          case measure => simp [intOf]; omega
        · obtain rfl : j = 8 := by omega
          go_wp2
          go_round
          case rel => exact ⟨k + 1, by omega, by go_num, by rw [take_succ_get xs k hlx, reg_snoc]; rfl⟩
          case measure => simp [intOf]; omega
    · go_wp2
      go_ret
      have : xs.take k = xs := List.take_of_length_le (by rw [HL.out]; omega)
      refine ⟨?_, rfl⟩
      rw [this]; rfl

set_option maxHeartbeats 400000 in
theorem refSum_calls (A : Option Addr) (n c : Nat) (xs : List UInt8) (w : World) (hx : RB w A n c xs) (hb : n ≤ 140737488351232) :
    Calls Tryd.prog 16 #[.slice A n c] w fun e w' => e = .returned (.int .u32 (n32 (Crc.sum xs))) ∧ w = w' := by
  go_enter Tryd.func16, Tryd.ntmps16
  go_wp2_with (go_at_call 20; refine (refUpdate_calls 0#32 _ _ _ xs _ hx hb).mono ?_; rintro e w' ⟨rfl, rfl⟩)
  go_ret
  exact ⟨rfl, rfl⟩

set_option maxHeartbeats 400000 in
theorem crcSum_calls (A : Option Addr) (n c : Nat) (xs : List UInt8) (w : World) (hx : RB w A n c xs) (hb : n ≤ 140737488351232) (hg : Tab w) :
    Calls Tryd.prog 15 #[.slice A n c] w fun e w' => e = .returned (.int .u32 (n32 (Crc.sum xs))) ∧ w = w' := by
  go_enter Tryd.func15, Tryd.ntmps15
  go_wp2_with (go_at_call 19; refine (Update_calls 0#32 _ _ _ xs _ hx hb hg).mono ?_; rintro e w' ⟨rfl, rfl⟩)
  go_ret
  exact ⟨rfl, rfl⟩
end

section
attribute [local go_sem] n32_by0 n32_by1 n32_by2 n32_by3 n32_by3' n32_nonneg n32_le u8_idem

set_option maxHeartbeats 400000 in
theorem low_calls (s : BitVec 32) (w : World) :
    Calls Tryd.prog 31 #[.int .u32 (n32 s)] w fun e w' => e = .returned (.slice (some ⟨w.heap.size, 0, none⟩) 4 4) ∧ OB w' w.heap.size 4 4 (Crc.tail4 s) ∧ Below w.heap.size w w' := by
  have hn := n32_nonneg s
  have hle := n32_le s
  go_enter Tryd.func31, Tryd.ntmps31
  go_wp2
  go_ret
  exact ⟨rfl, RB.lit w (Crc.tail4 s) 4 rfl (by simp [maxLen]), (Below.refl _ _).alloc (Nat.le_refl _) _⟩

set_option maxHeartbeats 400000 in
theorem mark_calls (A : Option Addr) (n c : Nat) (xs : List UInt8) (w : World) (hx : RB w A n c xs) (hb : n ≤ 140737488351232) (hg : Tab w) :
    Calls Tryd.prog 30 #[.slice A n c] w fun e w' => e = .returned (.agg #[.int .u8 ((by0 (Crc.sum xs)).toNat : Int), .int .u8 ((by1 (Crc.sum xs)).toNat : Int), .int .u8 ((by2 (Crc.sum xs)).toNat : Int), .int .u8 ((by3 (Crc.sum xs)).toNat : Int)]) ∧ Below w.heap.size w w' := by
  go_enter Tryd.func30, Tryd.ntmps30
  have hb1 : ∀ o, Below w.heap.size w (w.alloc o) := fun o => (Below.refl _ _).alloc (Nat.le_refl _) _
  go_wp2_with (go_at_call 15; refine (crcSum_calls _ _ _ xs _ (hx.below (hb1 _)) hb (hg.below (hb1 _))).mono ?_; rintro e w' ⟨rfl, rfl⟩)
  refine bodyPost_ret (v := .agg #[.int .u8 ((by0 (Crc.sum xs)).toNat : Int), .int .u8 ((by1 (Crc.sum xs)).toNat : Int), .int .u8 ((by2 (Crc.sum xs)).toNat : Int), .int .u8 ((by3 (Crc.sum xs)).toNat : Int)]) (by simp [results, Tryd.results30, go_sem]) rfl ⟨rfl, hb1 _⟩
end
end Go.Proofs.YtjfecechagoepaaDoor
