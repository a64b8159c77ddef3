/- The contract of the laws' first: the chapter's examples hold. -/
import Derived.Test.YtenalocpmigppaaGreatDoorCrcL
import Derived.Test.YtenalocpmigppaaGreatDoorLit
import Derived.Lib.SmallJoins
namespace Go.Proofs.YtenalocpmigppaaGreatDoor
open Go.RowKit

def digits : List UInt8 := [49, 50, 51, 52, 53, 54, 55, 56, 57]
def woods : List UInt8 := [32, 119, 111, 111, 100]
theorem digits_sum : Crc.sum digits = 0xCBF43926#32 := by decide +kernel
theorem woods_sum : Crc.update 0x787329C6#32 woods = 0x1004C630#32 := by decide +kernel
theorem zeros_sum : Crc.sum (zeros 4092) = 0x603B0489#32 := Crc.zeros_sum
theorem n32_digits : n32 (Crc.sum digits) = (3421780262 : Int) := by rw [digits_sum]; rfl
theorem n32_woods : n32 (Crc.update 0x787329C6#32 woods) = (268748336 : Int) := by rw [woods_sum]; rfl
theorem tail_zeros : Crc.tail4 (Crc.sum (zeros 4092)) = [137, 4, 59, 96] := by rw [zeros_sum]; decide
theorem zeros_split : zeros 4096 = zeros 4092 ++ [0, 0, 0, 0] := by
  unfold zeros
  rw [show (4096 : Nat) = 4092 + 4 from rfl, ← List.replicate_append_replicate]; rfl

theorem Open_ok (A : Option Addr) (c : Nat) (xs : List UInt8) (w : World) (hx : RB w A 4096 c (xs ++ Crc.tail4 (Crc.sum xs))) (hg : Tab w) :
    Calls Tryz.prog 20 #[.slice A 4096 c] w fun e w' => ∃ g c', e = .returned (.tuple #[.slice (some ⟨g, 0, none⟩) 4092 c', .int .i64 0]) ∧ w.heap.size ≤ g ∧ OB w' g 4092 c' xs ∧ Below w.heap.size w w' := by
  obtain ⟨ad, rfl, _⟩ := hx.addr (by rw [hx.len]; decide)
  exact Open_walk ad c xs _ _ _ _ w hx hg true (decide_eq_true (tail4_by _).symm)
theorem Open_no (A : Option Addr) (c : Nat) (xs : List UInt8) (a b d f : UInt8) (w : World) (hx : RB w A 4096 c (xs ++ [a, b, d, f])) (hg : Tab w) (hn : [a, b, d, f] ≠ Crc.tail4 (Crc.sum xs)) :
    Calls Tryz.prog 20 #[.slice A 4096 c] w fun e w' => e = .returned (.tuple #[.slice none 0 0, .int .i64 22]) ∧ Below w.heap.size w w' := by
  obtain ⟨ad, rfl, _⟩ := hx.addr (by rw [hx.len]; decide)
  exact Open_walk ad c xs _ _ _ _ w hx hg false (decide_eq_false hn)

theorem lit_readC (w : World) (xs : List UInt8) (n : Nat) (fr : Nat × Nat) (hn : xs.length = n) (hm : n ≤ maxLen) : RB (w.alloc (.cells (u8s xs).toArray 5 fr)) (some ⟨w.heap.size, 0, none⟩) n n xs :=
  RB.of_block xs n (heap_alloc_new w _) hn hm

theorem first_room {w : World} {g c : Nat} {xs : List UInt8} (h : OB w g 4096 c xs) : ¬ (c = 4092) := by have := OC.le h; omega
theorem first_tail {w : World} {g c : Nat} (h : OB w g 4096 c (zeros 4092 ++ Crc.tail4 (Crc.sum (zeros 4092)))) : RB w (some ⟨g, 4092, none⟩) 4 (c - 4092) (Crc.tail4 (Crc.sum (zeros 4092))) := by
  have hc := OC.le h
  have h2 := h.read.cut (A' := some ⟨g, 4092, none⟩) 4092 4096 c (by omega) (Nat.le_refl _) hc (Nat.le_refl _) (fun _ => by simp [Addr.add]) (fun e => by cases e)
  have e : ((zeros 4092 ++ Crc.tail4 (Crc.sum (zeros 4092))).drop 4092).take (4096 - 4092) = Crc.tail4 (Crc.sum (zeros 4092)) := by
    rw [List.drop_append_of_le_length (by rw [zeros_length]; exact Nat.le_refl _), List.drop_of_length_le (by rw [zeros_length]; exact Nat.le_refl _)]; rfl
  rwa [e] at h2
theorem n32_wood0 : n32 0x787329C6#32 = (2020813254 : Int) := by unfold n32; simp
theorem Update_wood (A : Option Addr) (n c : Nat) (xs : List UInt8) (w : World) (hx : RB w A n c xs) (hb : n ≤ 140737488351232) (hg : Tab w) :
    Calls Tryz.prog 58 #[.int .u32 2020813254, .slice A n c] w fun e w' => e = .returned (.int .u32 (n32 (Crc.update 0x787329C6#32 xs))) ∧ w = w' := by
  have h := Update_calls 0x787329C6#32 A n c xs w hx hb hg
  rw [n32_wood0] at h
  exact h

set_option maxRecDepth 100000 in
set_option maxHeartbeats 1000000 in
theorem first_calls (w : World) (hg : Tab w) :
    Calls Tryz.prog 16 #[] w fun e w' => e = .returned (.bool true) ∧ Below w.heap.size w w' := by
  have n1 := n32_digits
  have n2 := n32_woods
  have bd := below1 w (.cells (u8s digits).toArray 5 (9, 10))
  have b3 := bd.trans ((below1 (w.alloc (.cells (u8s digits).toArray 5 (9, 10))) (.cells (u8s woods).toArray 5 (5, 6))).mono (by simp))
  have r3 := lit_readC (w.alloc (.cells (u8s digits).toArray 5 (9, 10))) woods 5 (5, 6) rfl (by simp [maxLen])
  rw [show (w.alloc (.cells (u8s digits).toArray 5 (9, 10))).heap.size = w.heap.size + 1 from by simp] at r3
  have t3 := hg.below b3
  have kc := fun (w : World) (C : Array Value) (n c g : Nat) (hg : g = w.heap.size) => Joins.run_convert_bytes_const_at (P := Tryz.prog) w 42 5 C n c g hg Tryz.underlying42 Tryz.underlying5
  go_enter Tryz.func16, Tryz.ntmps16
  go_wp2_with (first
    | (go_at_call 20; refine (Open_no _ _ _ _ _ _ _ _ o8.read (hg.below b8) (by rw [tail_zeros]; decide)).mono ?_; rintro e w9 ⟨rfl, b9'⟩; have b9 := b8.trans (b9'.mono b8.size))
    | (at_make; refine wpB_full rfl _ _ rfl _ _ _ _ 4096 rfl rfl rfl rfl (by omega) ?_; intro g8 w8 s8 o8 k8; have b8 := b7.grown k8 b7.size (by simp); rw [zeros_split] at o8)
    | (go_at_call 20; refine (Open_ok _ _ _ _ o6.read (hg.below b6)).mono ?_; rintro e w7 ⟨g7, c7, rfl, s7, o7, b7'⟩; have b7 := b6.trans (b7'.mono b6.size))
    | (go_at_call 21; refine (SameBytes_calls _ _ _ _ _ _ _ _ _ (r5.below (below1 _ _)) (lit_readC w5 [137, 4, 59, 96] 4 (0, 0) rfl (by simp [maxLen])) true (by rw [tail_zeros]; rfl)).mono ?_; rintro e w6 ⟨rfl, rfl⟩; have o6 := o5.below (below1 w5 (.cells (u8s [137, 4, 59, 96]).toArray 5)); have b6 := b5.trans ((below1 w5 (.cells (u8s [137, 4, 59, 96]).toArray 5)).mono b5.size))
    | (go_at_call 19; refine (num_calls _ _).mono ?_; rintro e w6 ⟨rfl, rfl⟩)
    | (go_at_call 18; refine (Seal_ok _ _ _ _ o4.read (hg.below b4)).mono ?_; rintro e w5 ⟨g5, c5, rfl, s5, o5, b5'⟩; have b5 := b4.trans (b5'.mono b4.size); have hc5 := first_room o5; have r5 := first_tail o5)
    | (at_make; refine wpB_full rfl _ _ rfl _ _ _ _ 4092 rfl rfl rfl rfl (by omega) ?_; intro g4 w4 s4 o4 k4; have b4 := b3.grown k4 (by simp; omega) (by simp))
    | (go_at_call 58; refine (Update_wood _ _ _ woods _ r3 (by omega) t3).mono ?_; rintro e w3 ⟨rfl, rfl⟩)
    | (go_at_call 57; refine (crcSum_calls _ _ _ digits _ (lit_readC w digits 9 _ rfl (by simp [maxLen])) (by omega) (hg.below bd)).mono ?_; rintro e w2 ⟨rfl, rfl⟩))
  go_ret
  exact ⟨rfl, b9⟩
end Go.Proofs.YtenalocpmigppaaGreatDoor
