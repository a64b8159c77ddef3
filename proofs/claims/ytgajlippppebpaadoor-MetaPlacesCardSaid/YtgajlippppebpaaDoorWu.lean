/- wire.Put with the length told. -/
import Derived.Test.YtgajlippppebpaaDoorWp8
import Derived.Test.YtgajlippppebpaaDoorWp32
import Derived.Test.YtgajlippppebpaaDoorWp64
namespace Go.Proofs.YtgajlippppebpaaDoor
open Go.RowKit
theorem Put8_to (l : Nat) (A : Option Addr) (n c : Nat) (xs : List UInt8) (x : Nat) (w : World) (hx : RB w A n c xs) (hl : n + 1 = l) (hb : n ≤ 140737488355300) (hxx : Hid (x < 256 ^ 1)) :
    Calls Tryd.prog 25 #[.slice A n c, .int .u8 (x : Int)] w fun e w' => ∃ g c', e = .returned (.slice (some ⟨g, 0, none⟩) l c') ∧ w.heap.size ≤ g ∧ OB w' g l c' (xs ++ leB x 1) ∧ Below w.heap.size w w' := by
  subst hl
  exact Put8_calls A n c xs x w hx hb hxx.out
theorem Put32_to (l : Nat) (A : Option Addr) (n c : Nat) (xs : List UInt8) (x : Nat) (w : World) (hx : RB w A n c xs) (hl : n + 4 = l) (hb : n ≤ 140737488355300) (hxx : Hid (x < 256 ^ 4)) :
    Calls Tryd.prog 24 #[.slice A n c, .int .u32 (x : Int)] w fun e w' => ∃ g c', e = .returned (.slice (some ⟨g, 0, none⟩) l c') ∧ w.heap.size ≤ g ∧ OB w' g l c' (xs ++ leB x 4) ∧ Below w.heap.size w w' := by
  subst hl
  exact Put32_calls A n c xs x w hx hb hxx.out
theorem Put64_to (l : Nat) (A : Option Addr) (n c : Nat) (xs : List UInt8) (x : Nat) (w : World) (hx : RB w A n c xs) (hl : n + 8 = l) (hb : n ≤ 140737488355300) (hxx : Hid (x < 256 ^ 8)) :
    Calls Tryd.prog 23 #[.slice A n c, .int .u64 (x : Int)] w fun e w' => ∃ g c', e = .returned (.slice (some ⟨g, 0, none⟩) l c') ∧ w.heap.size ≤ g ∧ OB w' g l c' (xs ++ leB x 8) ∧ Below w.heap.size w w' := by
  subst hl
  exact Put64_calls A n c xs x w hx hb hxx.out
end Go.Proofs.YtgajlippppebpaaDoor
