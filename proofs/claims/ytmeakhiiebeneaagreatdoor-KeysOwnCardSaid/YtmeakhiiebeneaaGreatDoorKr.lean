/- Arguments opened: a slice of pairs. -/
import Derived.Test.YtmeakhiiebeneaaGreatDoorRM
import Derived.Test.YtmeakhiiebeneaaGreatDoorOpen
import Derived.Lib.SmallJoins
namespace Go.Proofs.YtmeakhiiebeneaaGreatDoor
open Go.ChangeShapes Go.WideShapes Go.ChangeAt Go.RowKit

theorem cells_pair : Tryz.prog.cellsOf 42 = 2 := by kernel_rfl
theorem cells_pb : Tryz.prog.cellsOf 40 = 1 := by kernel_rfl
/-- A slice of pairs of byte slices. -/
structure RP (w : World) (A : Option Addr) (n : Nat) : Prop where
  each : ∀ i, i < n → ∃ (ad : Addr) (A1 : Option Addr) (n1 c1 : Nat) (A2 : Option Addr) (n2 c2 : Nat) (xs ys : List UInt8), A = some ad ∧ w.cell? (ad.add (i * 2)) = some (.slice A1 n1 c1) ∧ w.cell? ((ad.add (i * 2)).add 1) = some (.slice A2 n2 c2) ∧ RB w A1 n1 c1 xs ∧ RB w A2 n2 c2 ys
theorem RP.below {w w' : World} {A : Option Addr} {n : Nat} (h : RP w A n) (b : Below w.heap.size w w') : RP w' A n :=
  ⟨fun i hi => by
    obtain ⟨ad, A1, n1, c1, A2, n2, c2, xs, ys, e, h1, h2, r1, r2⟩ := h.each i hi
    exact ⟨ad, A1, n1, c1, A2, n2, c2, xs, ys, e, (b.cell (World.block_lt_of_cell? w _ h1)).trans h1, (b.cell (World.block_lt_of_cell? w _ h2)).trans h2, r1.below b, r2.below b⟩⟩
theorem open_cell {H : Type} {enc : TypeId × Value → H} {W : World} {base k : Nat} {held : Bool} {c0 : Value} {y : DataW H × List MemPlace}
    (g : DataW.trod enc Tryz.prog W base (fun _ => true) held k 40 [c0] = some y) : ∃ (A : Option Addr) (n c : Nat) (xs : List UInt8), c0 = .slice A n c ∧ RB W A n c xs := by
  obtain ⟨d, ps⟩ := y
  rcases Go.Deep.open_slice Tryz.underlying40 g with ⟨hcs, _⟩ | ⟨ad, l, c, m, n, D, Pl, hcs, _⟩
  · simp at hcs
    subst hcs
    obtain ⟨xs, hx⟩ := open_bytes ⟨k, g⟩
    exact ⟨_, _, _, xs, rfl, hx⟩
  · simp at hcs
    subst hcs
    obtain ⟨xs, hx⟩ := open_bytes ⟨k, g⟩
    exact ⟨_, _, _, xs, rfl, hx⟩
set_option maxRecDepth 100000 in
theorem open_pairs {H : Type} {enc : TypeId × Value → H} {W : World} {base : Nat} {held : Bool} {a : Option Addr} {len cap : Nat} {d : DataW H} {ps : List MemPlace}
    (h : DataW.Trod enc Tryz.prog W base (fun _ => true) held 22 (.slice a len cap) d ps) : RP W a len := by
  obtain ⟨fuel, hf⟩ := h
  rcases Go.Deep.open_slice Tryz.underlying22 hf with ⟨hcs, _⟩ | ⟨ad, l, c, m, n, D, Pl, hcs, _, hl, hm, hmm, _, hi⟩
  · simp [Value.cells] at hcs
    obtain ⟨rfl, rfl, rfl⟩ := hcs
    exact ⟨fun i hi => absurd hi (Nat.not_lt_zero i)⟩
  · simp [Value.cells] at hcs
    obtain ⟨rfl, rfl, rfl⟩ := hcs
    have hml : len ≤ m := by rw [hmm]; split <;> omega
    refine ⟨fun i him => ?_⟩
    obtain ⟨cs', hc, ht'⟩ := hi i (by omega)
    rw [cells_pair] at hc
    obtain ⟨xs, k, _, _, _, hlen, hg⟩ := DataW.trod_struct Tryz.underlying42 ht'
    obtain ⟨_, hcl, hat⟩ := World.cells?_some hc
    match cs', hcl with
    | [c0, c1], _ =>
      match xs, hlen with
      | [y0, y1], _ =>
        have g0 : DataW.trod enc Tryz.prog W base (fun _ => true) held k 40 (([c0, c1].drop 0).take (Tryz.prog.cellsOf 40)) = some y0 := hg 0 _ rfl
        have g1 : DataW.trod enc Tryz.prog W base (fun _ => true) held k 40 (([c0, c1].drop 1).take (Tryz.prog.cellsOf 40)) = some y1 := hg 1 _ rfl
        rw [cells_pb] at g0 g1
        obtain ⟨A1, n1, c1', xs1, rfl, r1⟩ := open_cell g0
        obtain ⟨A2, n2, c2', xs2, rfl, r2⟩ := open_cell g1
        have q0 := hat 0 (by decide)
        have q1 := hat 1 (by decide)
        have e : (ad.add (i * 2)).add 0 = ad.add (i * 2) := by generalize ad.add (i * 2) = b; unfold Addr.add; exact if_pos rfl
        rw [e] at q0
        exact ⟨ad, A1, n1, c1', A2, n2, c2', xs1, xs2, rfl, q0, q1, r1, r2⟩
end Go.Proofs.YtmeakhiiebeneaaGreatDoor
