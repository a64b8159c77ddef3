/- Contracts of the reference's step, Update, Sum, low, and of crc's Sum, mark. -/
import Derived.Test.YtenalocpmigppaaGreatDoorCrcW
namespace Go.Proofs.YtenalocpmigppaaGreatDoor
open Go.RowKit

def by0 (s : BitVec 32) : UInt8 := UInt8.ofNat s.toNat
def by1 (s : BitVec 32) : UInt8 := UInt8.ofNat (s.toNat / 256)
def by2 (s : BitVec 32) : UInt8 := UInt8.ofNat (s.toNat / 65536)
def by3 (s : BitVec 32) : UInt8 := UInt8.ofNat (s.toNat / 16777216)
theorem tail4_by (s : BitVec 32) : Crc.tail4 s = [by0 s, by1 s, by2 s, by3 s] := rfl
theorem n32_by0 (s : BitVec 32) : n32 s % (256 : Int) = ((by0 s).toNat : Int) := by
  unfold n32 by0; rw [UInt8.toNat_ofNat']; omega
theorem n32_by1 (s : BitVec 32) : n32 s / (256 : Int) % (256 : Int) = ((by1 s).toNat : Int) := by
  unfold n32 by1; rw [UInt8.toNat_ofNat']; omega
theorem n32_by2 (s : BitVec 32) : n32 s / (65536 : Int) % (256 : Int) = ((by2 s).toNat : Int) := by
  unfold n32 by2; rw [UInt8.toNat_ofNat']; omega
theorem n32_by3 (s : BitVec 32) : n32 s / (16777216 : Int) % (256 : Int) = ((by3 s).toNat : Int) := by
  unfold n32 by3; rw [UInt8.toNat_ofNat']; omega
theorem n32_by3' (s : BitVec 32) : n32 s / (16777216 : Int) = ((by3 s).toNat : Int) := by
  rw [← n32_by3]; have := s.isLt; unfold n32; omega
theorem u8_idem (b : UInt8) : (b.toNat : Int) % (256 : Int) = (b.toNat : Int) := by have := b.toNat_lt; omega
theorem n32_nonneg (x : BitVec 32) : 0 ≤ n32 x := by unfold n32; omega
theorem n32_le (x : BitVec 32) : n32 x ≤ (4294967295 : Int) := by unfold n32; have := x.isLt; omega
theorem n32_half (x : BitVec 32) : n32 x / (2 : Int) = n32 (x >>> 1) := by
  unfold n32
  rw [BitVec.toNat_ushiftRight, Nat.shiftRight_eq_div_pow]; omega
theorem n32_poly (x : BitVec 32) : bits .xor .u32 (n32 x) (3988292384 : Int) = n32 (x ^^^ Crc.poly) := bits_xor x Crc.poly
theorem n32_not (x : BitVec 32) : (4294967295 : Int) - n32 x = n32 (~~~ x) := by
  unfold n32
  rw [BitVec.toNat_not]
  have := x.isLt
  omega
theorem n32_idem (x : BitVec 32) : n32 x % (4294967296 : Int) = n32 x := by unfold n32; have := x.isLt; omega
theorem n32_odd (x : BitVec 32) : n32 x % (2 : Int) = if x.getLsbD 0 then 1 else 0 := by
  unfold n32
  have h : x.getLsbD 0 = decide (x.toNat % 2 = 1) := by
    rw [← BitVec.testBit_toNat, Nat.testBit_zero]
  rw [h]
  by_cases e : x.toNat % 2 = 1
  · simp [e]; omega
  · simp [e]; omega

section
attribute [local go_sem] bits_xor n32_mod n32_nonneg n32_le n32_half n32_poly n32_not n32_idem

theorem steps_snoc (k : Nat) (x : BitVec 32) : Crc.step (Crc.steps k x) = Crc.steps (k + 1) x := by rw [Crc.steps_add]; rfl

set_option maxHeartbeats 400000 in
theorem crcSum_calls (A : Option Addr) (n c : Nat) (xs : List UInt8) (w : World) (hx : RB w A n c xs) (hb : n ≤ 140737488351232) (hg : Tab w) :
    Calls Tryz.prog 57 #[.slice A n c] w fun e w' => e = .returned (.int .u32 (n32 (Crc.sum xs))) ∧ w = w' := by
  go_enter Tryz.func57, Tryz.ntmps57
  go_wp2_with (go_at_call 58; refine (Update_calls 0#32 _ _ _ xs _ hx hb hg).mono ?_; rintro e w' ⟨rfl, rfl⟩)
  go_ret
  exact ⟨rfl, rfl⟩
end

section
attribute [local go_sem] n32_by0 n32_by1 n32_by2 n32_by3 n32_by3' n32_nonneg n32_le u8_idem

set_option maxHeartbeats 400000 in
theorem mark_calls (A : Option Addr) (n c : Nat) (xs : List UInt8) (w : World) (hx : RB w A n c xs) (hb : n ≤ 140737488351232) (hg : Tab w) :
    Calls Tryz.prog 59 #[.slice A n c] w fun e w' => e = .returned (.agg #[.int .u8 ((by0 (Crc.sum xs)).toNat : Int), .int .u8 ((by1 (Crc.sum xs)).toNat : Int), .int .u8 ((by2 (Crc.sum xs)).toNat : Int), .int .u8 ((by3 (Crc.sum xs)).toNat : Int)]) ∧ Below w.heap.size w w' := by
  go_enter Tryz.func59, Tryz.ntmps59
  have hb1 : ∀ o, Below w.heap.size w (w.alloc o) := fun o => (Below.refl _ _).alloc (Nat.le_refl _) _
  go_wp2_with (go_at_call 57; refine (crcSum_calls _ _ _ xs _ (hx.below (hb1 _)) hb (hg.below (hb1 _))).mono ?_; rintro e w' ⟨rfl, rfl⟩)
  refine bodyPost_ret (v := .agg #[.int .u8 ((by0 (Crc.sum xs)).toNat : Int), .int .u8 ((by1 (Crc.sum xs)).toNat : Int), .int .u8 ((by2 (Crc.sum xs)).toNat : Int), .int .u8 ((by3 (Crc.sum xs)).toNat : Int)]) (by simp [results, Tryz.results59, go_sem]) rfl ⟨rfl, hb1 _⟩
end
end Go.Proofs.YtenalocpmigppaaGreatDoor
