/- wire.Put with the length told. -/
import Derived.Test.YtenalocpmigppaaGreatDoorWp8
import Derived.Test.YtenalocpmigppaaGreatDoorWp32
import Derived.Test.YtenalocpmigppaaGreatDoorWp64
namespace Go.Proofs.YtenalocpmigppaaGreatDoor
open Go.RowKit
theorem Put8_to (l : Nat) (A : Option Addr) (n c : Nat) (xs : List UInt8) (x : Nat) (w : World) (hx : RB w A n c xs) (hl : n + 1 = l) (hb : n ≤ 140737488355300) (hxx : Hid (x < 256 ^ 1)) :
    Calls Tryz.prog 70 #[.slice A n c, .int .u8 (x : Int)] w fun e w' => ∃ g c', e = .returned (.slice (some ⟨g, 0, none⟩) l c') ∧ w.heap.size ≤ g ∧ OB w' g l c' (xs ++ leB x 1) ∧ Below w.heap.size w w' := by
  subst hl
  exact Put8_calls A n c xs x w hx hb hxx.out
theorem Put32_to (l : Nat) (A : Option Addr) (n c : Nat) (xs : List UInt8) (x : Nat) (w : World) (hx : RB w A n c xs) (hl : n + 4 = l) (hb : n ≤ 140737488355300) (hxx : Hid (x < 256 ^ 4)) :
    Calls Tryz.prog 69 #[.slice A n c, .int .u32 (x : Int)] w fun e w' => ∃ g c', e = .returned (.slice (some ⟨g, 0, none⟩) l c') ∧ w.heap.size ≤ g ∧ OB w' g l c' (xs ++ leB x 4) ∧ Below w.heap.size w w' := by
  subst hl
  exact Put32_calls A n c xs x w hx hb hxx.out
theorem Put64_to (l : Nat) (A : Option Addr) (n c : Nat) (xs : List UInt8) (x : Nat) (w : World) (hx : RB w A n c xs) (hl : n + 8 = l) (hb : n ≤ 140737488355300) (hxx : Hid (x < 256 ^ 8)) :
    Calls Tryz.prog 68 #[.slice A n c, .int .u64 (x : Int)] w fun e w' => ∃ g c', e = .returned (.slice (some ⟨g, 0, none⟩) l c') ∧ w.heap.size ≤ g ∧ OB w' g l c' (xs ++ leB x 8) ∧ Below w.heap.size w w' := by
  subst hl
  exact Put64_calls A n c xs x w hx hb hxx.out
end Go.Proofs.YtenalocpmigppaaGreatDoor
