/- A slice of slices of bytes that is read (RM). -/
import Derived.Test.YtieoleiokjoccaaB
namespace Go.Proofs.Ytieoleiokjoccaa
open Go.RowKit

/-- A slice of slices of bytes. -/
structure RM (w : World) (A : Option Addr) (n c : Nat) (vs : List Value) (xss : List (List UInt8)) : Prop where
  rc : RC w 1 A n c vs
  len : xss.length = n
  each : ∀ (j : Nat) (xs : List UInt8), xss[j]? = some xs → ∃ (Aj : Option Addr) (nj cj : Nat), vs[j]? = some (Value.slice Aj nj cj) ∧ RB w Aj nj cj xs
theorem RM.below {w w' : World} {A : Option Addr} {n c : Nat} {vs : List Value} {xss : List (List UInt8)} (h : RM w A n c vs xss) (hb : Below w.heap.size w w') : RM w' A n c vs xss :=
  ⟨h.rc.below hb, h.len, fun j xs hj => by obtain ⟨Aj, nj, cj, e, r⟩ := h.each j xs hj; exact ⟨Aj, nj, cj, e, r.below hb⟩⟩
theorem RM.row {w : World} {A : Option Addr} {n c : Nat} {vs : List Value} {xss : List (List UInt8)} (h : RM w A n c vs xss) (j : Nat) (hj : j < n) :
    ∃ (ad : Addr) (Aj : Option Addr) (nj cj : Nat) (xs : List UInt8), A = some ad ∧ xss[j]? = some xs ∧ w.cell? (ad.add j) = some (.slice Aj nj cj) ∧ RB w Aj nj cj xs := by
  obtain ⟨xs, hxs⟩ : ∃ xs, xss[j]? = some xs := ⟨_, List.getElem?_eq_getElem (by rw [h.len]; exact hj)⟩
  obtain ⟨Aj, nj, cj, e, r⟩ := h.each j xs hxs
  obtain ⟨ad, u, e1, e2, e3⟩ := RC.at_ h.rc j hj
  rw [e] at e2
  cases e2
  exact ⟨ad, Aj, nj, cj, xs, e1, hxs, e3, r⟩

theorem RB.max {w : World} {A : Option Addr} {n c : Nat} {xs : List UInt8} (h : RB w A n c xs) : n ≤ 9223372036854775807 := by
  have h1 := RC.le h; have h2 := RC.mx h; rw [maxLen_is] at h2; omega
end Go.Proofs.Ytieoleiokjoccaa
