/- Contracts of package crc: Update, Sum, mark, Seal, Open; and of the reference's. -/
import Derived.Test.YtenalocpmigppaaGreatDoorRefA
import Derived.Test.YtenalocpmigppaaGreatDoorCrcC
namespace Go.Proofs.YtenalocpmigppaaGreatDoor
open Go.RowKit

/-! ### u32 as bit vectors -/
theorem ofInt_nat (x : BitVec 32) : BitVec.ofInt 32 (x.toNat : Int) = x := by
  refine BitVec.eq_of_toNat_eq ?_
  have := x.isLt
  rw [BitVec.toNat_ofInt]
  omega
theorem wrap_u32_nat (x : BitVec 32) : IntKind.u32.wrap (x.toNat : Int) = (x.toNat : Int) := by
  have := x.isLt
  rw [IntKind.wrap_u32]; omega
/-- The number of a register, closed to simp. -/
def n32 (x : BitVec 32) : Int := (x.toNat : Int)
theorem n32_inj {x y : BitVec 32} (h : n32 x = n32 y) : x = y := BitVec.eq_of_toNat_eq (by unfold n32 at h; omega)
theorem n32_of {z : Int} (h0 : 0 ≤ z) (h1 : z < 4294967296) : ∃ b : BitVec 32, z = n32 b := ⟨BitVec.ofNat 32 z.toNat, by unfold n32; rw [BitVec.toNat_ofNat, Nat.mod_eq_of_lt (by omega)]; omega⟩
theorem bits_xor (x y : BitVec 32) : bits .xor .u32 (n32 x) (n32 y) = n32 (x ^^^ y) := by
  show IntKind.u32.wrap ((BitVec.ofInt 32 (x.toNat : Int) ^^^ BitVec.ofInt 32 (y.toNat : Int)).toNat : Int) = _
  rw [ofInt_nat, ofInt_nat, wrap_u32_nat]; rfl
theorem bits_not (x : BitVec 32) : bits .xor .u32 IntKind.u32.max (n32 x) = n32 (~~~ x) := by
  show IntKind.u32.wrap ((BitVec.ofInt 32 4294967295 ^^^ BitVec.ofInt 32 (x.toNat : Int)).toNat : Int) = _
  rw [ofInt_nat, wrap_u32_nat]
  unfold n32
  congr 2
def lo4 (x : BitVec 32) : Nat := x.toNat % 16
theorem lo4_lt (x : BitVec 32) : lo4 x < 16 := Nat.mod_lt _ (by decide)
theorem bits_and15 (x : BitVec 32) : bits .and .u32 (n32 x) 15 = (lo4 x : Int) := by
  show IntKind.u32.wrap ((BitVec.ofInt 32 (x.toNat : Int) &&& BitVec.ofInt 32 15).toNat : Int) = _
  rw [ofInt_nat, wrap_u32_nat, BitVec.toNat_and]
  have : (BitVec.ofInt 32 15).toNat = 2 ^ 4 - 1 := by decide
  rw [this, Nat.and_two_pow_sub_one_eq_mod]; rfl
theorem n32_div16 (x : BitVec 32) : n32 x / (16 : Int) = n32 (x >>> 4) := by
  unfold n32
  rw [BitVec.toNat_ushiftRight, Nat.shiftRight_eq_div_pow]; omega
theorem n32_mod (b : UInt8) : (b.toNat : Int) % 4294967296 = n32 (Crc.byte b) := by
  unfold n32
  rw [Crc.byte_toNat]; have := b.toNat_lt; omega
def tabAt (k : Nat) : BitVec 32 := Crc.tab.getD k 0#32
theorem steps4' (x : BitVec 32) : (x >>> 4) ^^^ tabAt (lo4 x) = Crc.steps 4 x := (Crc.steps4 x).symm

/-- The table is in memory. -/
def Tab (w : World) : Prop := ∀ k, k < 16 → w.cell? ⟨2, k, none⟩ = some (.int .u32 (n32 (tabAt k)))
theorem Tab.below {w w' : World} (h : Tab w) (hb : Below w.heap.size w w') : Tab w' := fun k hk => (hb.cell (World.block_lt_of_cell? w _ (h k hk))).trans (h k hk)

theorem reg_snoc (r : BitVec 32) (l : List UInt8) (b : UInt8) : Crc.reg r (l ++ [b]) = Crc.take1 (Crc.reg r l) b := by rw [Crc.reg_append]; rfl
theorem take_succ_get (xs : List UInt8) (k : Nat) (h : k < xs.length) : xs.take (k + 1) = xs.take k ++ [xs[k]] := by
  rw [List.take_succ_eq_append_getElem h]

theorem lo4_int (x : BitVec 32) : (lo4 x : Int) < 16 := by have := lo4_lt x; omega
attribute [local go_sem] lo4_lt lo4_int bits_xor bits_not bits_and15 n32_div16 n32_mod steps4'

set_option maxHeartbeats 400000 in
theorem Update_calls (r : BitVec 32) (A : Option Addr) (n c : Nat) (xs : List UInt8) (w : World) (hx : RB w A n c xs) (hb : n ≤ 140737488351232) (hg : Tab w) :
    Calls Tryz.prog 58 #[.int .u32 (n32 r), .slice A n c] w fun e w' => e = .returned (.int .u32 (n32 (Crc.update r xs))) ∧ w = w' := by
  have hl := hx.len
  have HL := hideIt hl
  have hg' : ∀ x, w.cell? ⟨2, lo4 x, none⟩ = some (.int .u32 (n32 (tabAt (lo4 x)))) := fun x => hg _ (lo4_lt x)
  clear hg
  go_enter Tryz.func58, Tryz.ntmps58
  clear hl
  go_wp2
  go_loop [5, 12] (fun x i => ∃ k : Nat, k ≤ n ∧ i = .int .i64 k ∧ x = .int .u32 (n32 (Crc.reg (~~~ r) (xs.take k)))) (fun _ i => n - (intOf i).toNat)
  case atStart => exact ⟨0, by omega, rfl, rfl⟩
  case round =>
    obtain ⟨k, hk, rfl, rfl⟩ := hrel
    by_cases hlt : k < n
    · have hlx : k < xs.length := by rw [HL.out]; exact hlt
      obtain ⟨ad, rfl, hc0⟩ := hx.addr (by omega)
      have hc := hc0 k hlx
      clear hc0
      go_wp2
      go_round
      case rel => exact ⟨k + 1, by omega, by go_num, by rw [take_succ_get xs k hlx, reg_snoc, Crc.take1_two]⟩
      case measure => simp [intOf]; omega
    · go_wp2
      go_ret
      have : xs.take k = xs := List.take_of_length_le (by rw [HL.out]; omega)
      refine ⟨?_, rfl⟩
      rw [this]; rfl
end Go.Proofs.YtenalocpmigppaaGreatDoor
