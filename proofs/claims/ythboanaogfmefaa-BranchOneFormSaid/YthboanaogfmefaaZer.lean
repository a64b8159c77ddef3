/- Zeros. -/
import Derived.WalkKit
namespace Go.Proofs.Ythboanaogfmefaa

def zer (n : Nat) : List UInt8 := List.replicate n 0
theorem zer_length (n : Nat) : (zer n).length = n := by simp [zer]
theorem all_zer (n : Nat) : (zer n).all (· == 0) = true := by simp [zer]
theorem zer_of_all (L : List UInt8) (h : L.all (· == 0) = true) : L = zer L.length := by
  unfold zer
  refine List.eq_replicate_iff.2 ⟨rfl, fun x hx => ?_⟩
  have := List.all_eq_true.1 h x hx
  simpa using this
end Go.Proofs.Ythboanaogfmefaa
