/- Arguments opened: a slice of bools. -/
import Derived.Test.YtenalocpmigppaaNb
import Derived.Test.YtenalocpmigppaaOpen
import Derived.Lib.SmallJoins
import Derived.Deep.Slices
namespace Go.Proofs.Ytenalocpmigppaa
open Go.ChangeShapes Go.WideShapes Go.ChangeAt Go.RowKit

theorem cells_bool : Try.prog.cellsOf 4 = 1 := by kernel_rfl
theorem open_bools {H : Type} {enc : TypeId × Value → H} {W : World} {base : Nat} {held : Bool} {a : Option Addr} {len cap : Nat} {d : DataW H} {ps : List MemPlace}
    (h : DataW.Trod enc Try.prog W base (fun _ => true) held 46 (.slice a len cap) d ps) : ∃ l : List Bool, RC W 1 a len cap (l.map .bool) := by
  obtain ⟨fuel, hf⟩ := h
  rcases Go.Deep.open_slice Try.underlying46 hf with ⟨hcs, _⟩ | ⟨ad, l, c, m, n, D, Pl, hcs, _, hl, hm, hmm, _, hi⟩
  · simp [Value.cells] at hcs
    obtain ⟨rfl, rfl, rfl⟩ := hcs
    exact ⟨[], rfl, Nat.le_refl _, Nat.zero_le _, fun _ => rfl, fun ad e => by cases e⟩
  · simp [Value.cells] at hcs
    obtain ⟨rfl, rfl, rfl⟩ := hcs
    have hml : len ≤ m := by rw [hmm]; split <;> omega
    have key : ∀ i, i < len → ∃ z : Bool, W.cell? (ad.add i) = some (.bool z) := by
      intro i him
      obtain ⟨cs', hc, ht'⟩ := hi i (by omega)
      rw [cells_bool] at hc
      obtain ⟨_, hcl, hat⟩ := World.cells?_some hc
      match cs', hcl with
      | [c0], _ =>
        obtain ⟨a0, h0, _⟩ := DataW.trod_bool Try.underlying4 ht'
        simp at h0
        subst h0
        have q0 := hat 0 (by decide)
        refine ⟨a0, ?_⟩
        rw [Nat.mul_one, Addr.add_zero'] at q0
        exact q0
    refine ⟨(List.range len).map fun i => if hi : i < len then (key i hi).choose else false, by simp, hl, hm, (fun e => by cases e), fun ad' e j u hu => ?_⟩
    cases e
    have hj : j < len := by
      have := (List.getElem?_eq_some_iff.1 hu).1
      simpa using this
    have sp := (key j hj).choose_spec
    rw [List.getElem?_map, List.getElem?_map, List.getElem?_range hj] at hu
    simp only [Option.map_some] at hu
    rw [dif_pos hj] at hu
    rw [sp, hu]
end Go.Proofs.Ytenalocpmigppaa
