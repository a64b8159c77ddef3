/- SameByteLists. -/
import Derived.Test.YtieoleiokjoccaaRM
import Derived.Test.YtieoleiokjoccaaRefA
import Derived.Test.YtieoleiokjoccaaLit
import Derived.Deep.QuietTactic
import Derived.BigQuiet
namespace Go.Proofs.Ytieoleiokjoccaa
open Go.RowKit

theorem RM.drew_ {w : World} {A : Option Addr} {n c : Nat} {vs : List Value} {xss : List (List UInt8)} (h : RM w A n c vs xss) (m : Nat) : RM (w.drewN m) A n c vs xss := h.below ⟨rfl, rfl, rfl, Nat.le_refl _, fun _ _ => rfl⟩
theorem RB.drew_ {w : World} {A : Option Addr} {n c : Nat} {xs : List UInt8} (h : RB w A n c xs) (m : Nat) : RB (w.drewN m) A n c xs := h.below ⟨rfl, rfl, rfl, Nat.le_refl _, fun _ _ => rfl⟩
theorem take_eq_step {α : Type} {l m : List α} {i : Nat} {x y : α} (h : l.take i = m.take i) (hx : l[i]? = some x) (hy : m[i]? = some y) (e : x = y) : l.take (i + 1) = m.take (i + 1) := by
  rw [List.take_add_one, List.take_add_one, hx, hy, h, e]
theorem ne_at {α : Type} {l m : List α} {i : Nat} {x y : α} (hx : l[i]? = some x) (hy : m[i]? = some y) (e : x ≠ y) : l ≠ m := by
  rintro rfl; rw [hx] at hy; injection hy with hy; exact e hy
theorem take_all_eq {α : Type} {l m : List α} {n : Nat} (h : l.take n = m.take n) (h1 : l.length = n) (h2 : m.length = n) : l = m := by
  rw [List.take_of_length_le (by omega), List.take_of_length_le (by omega)] at h; exact h

end Go.Proofs.Ytieoleiokjoccaa
