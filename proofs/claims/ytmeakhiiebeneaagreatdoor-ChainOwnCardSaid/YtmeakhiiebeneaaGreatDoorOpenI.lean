/- Arguments opened: a slice of ints. -/
import Derived.Test.YtmeakhiiebeneaaGreatDoorM1
import Derived.Test.YtmeakhiiebeneaaGreatDoorOpen
import Derived.Lib.SmallJoins
import Derived.Deep.Slices
namespace Go.Proofs.YtmeakhiiebeneaaGreatDoor
open Go.ChangeShapes Go.WideShapes Go.ChangeAt Go.RowKit

theorem cells_int : Tryz.prog.cellsOf 3 = 1 := by kernel_rfl
theorem open_intl {H : Type} {enc : TypeId × Value → H} {W : World} {base : Nat} {held : Bool} {a : Option Addr} {len cap : Nat} {d : DataW H} {ps : List MemPlace}
    (h : DataW.Trod enc Tryz.prog W base (fun _ => true) held 63 (.slice a len cap) d ps) : ∃ l, RI W a len cap l := by
  obtain ⟨fuel, hf⟩ := h
  rcases Go.Deep.open_slice Tryz.underlying63 hf with ⟨hcs, _⟩ | ⟨ad, l, c, m, n, D, Pl, hcs, _, hl, hm, hmm, _, hi⟩
  · simp [Value.cells] at hcs
    obtain ⟨rfl, rfl, rfl⟩ := hcs
    exact ⟨[], RI.nil _⟩
  · simp [Value.cells] at hcs
    obtain ⟨rfl, rfl, rfl⟩ := hcs
    have hml : len ≤ m := by rw [hmm]; split <;> omega
    have key : ∀ i, i < len → ∃ z : Int, W.cell? (ad.add i) = some (.int .i64 z) := by
      intro i him
      obtain ⟨cs', hc, ht'⟩ := hi i (by omega)
      rw [cells_int] at hc
      obtain ⟨_, hcl, hat⟩ := World.cells?_some hc
      match cs', hcl with
      | [c0], _ =>
        obtain ⟨a0, h0, _, w0⟩ := DataW.trod_int Tryz.underlying3 ht'
        simp at h0
        subst h0
        have q0 := hat 0 (by decide)
        refine ⟨a0, ?_⟩
        rw [Nat.mul_one, Addr.add_zero'] at q0
        exact q0
    refine ⟨(List.range len).map fun i => if hi : i < len then (key i hi).choose else 0, by simp [i64s_length], hl, hm, (fun e => by cases e), fun ad' e j u hu => ?_⟩
    cases e
    have hj : j < len := by
      have := (List.getElem?_eq_some_iff.1 hu).1
      simpa [i64s_length] using this
    have sp := (key j hj).choose_spec
    unfold i64s at hu
    rw [List.getElem?_map, List.getElem?_map, List.getElem?_range hj] at hu
    simp only [Option.map_some] at hu
    rw [dif_pos hj] at hu
    rw [sp, hu]
end Go.Proofs.YtmeakhiiebeneaaGreatDoor
