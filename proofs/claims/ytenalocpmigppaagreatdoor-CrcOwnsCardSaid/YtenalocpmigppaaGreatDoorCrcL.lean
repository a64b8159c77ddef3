/- Contracts of the laws' own helpers: num, room, still, padded. -/
import Derived.Test.YtenalocpmigppaaGreatDoorCrcZ
namespace Go.Proofs.YtenalocpmigppaaGreatDoor
open Go.RowKit

set_option maxHeartbeats 400000 in
theorem num_calls (k : Int) (w : World) : Calls Tryz.prog 19 #[.int .i64 k] w fun e w' => e = .returned (.int .i64 k) ∧ w = w' := by
  go_enter Tryz.func19, Tryz.ntmps19
  go_wp2
  go_ret
  exact ⟨rfl, rfl⟩

def marks : List UInt8 := [201, 202, 203]

def pad (xs : List UInt8) (n : Nat) : List UInt8 := xs.take n ++ List.replicate (n - xs.length) 0
theorem pad_length (xs : List UInt8) (n : Nat) : (pad xs n).length = n := by simp [pad]; omega

set_option maxHeartbeats 400000 in
theorem padded_calls (A : Option Addr) (n c m : Nat) (xs : List UInt8) (w : World) (hx : RB w A n c xs) (hm : m ≤ 100000) :
    Calls Tryz.prog 17 #[.slice A n c, .int .i64 m] w fun e w' => ∃ g, e = .returned (.slice (some ⟨g, 0, none⟩) m m) ∧ w.heap.size ≤ g ∧ OB w' g m m (pad xs m) ∧ Below w.heap.size w w' := by
  have HL := hideIt hx.len
  go_enter Tryz.func17, Tryz.ntmps17
  go_wp2_with (first
    | (at_make; refine wpB_full rfl _ _ rfl _ _ _ _ m rfl rfl rfl rfl (by omega) ?_; intro g1 w1 s1 o1 k1; have b1 := below_of_grown k1 (Nat.le_refl _) (by simp); have h1 := hx.below b1; have z1 := k1.size; have l1 := o1.lt)
    | (with_reducible refine wpB_copy rfl (.tmp 8) (.tmp 9) rfl _ _ _ rfl _ _ _ rfl _ _ _ 0 _ _ o1 h1 (min n m) rfl (fun _ => rfl) (by omega) ?_; intro w2 o2 k2))
  go_ret
  have e : (zeros m).take 0 ++ (xs.take (min n m) ++ (zeros m).drop (0 + min n m)) = pad xs m := by
    unfold pad zeros
    rw [HL.out, Nat.zero_add, List.drop_replicate, List.take_zero, List.nil_append]
    congr 1
    · rw [Nat.min_comm, ← List.take_take, List.take_of_length_le (l := xs) (by rw [HL.out]; exact Nat.le_refl _)]
    · congr 1; omega
  rw [e] at o2
  exact ⟨_, rfl, s1, o2, b1.grown k2 z1 (by simp; omega)⟩
end Go.Proofs.YtenalocpmigppaaGreatDoor
