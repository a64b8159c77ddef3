/- Arguments opened: a slice of kids. -/
import Derived.Test.YthboanaogfmefaaPb
import Derived.Test.YthboanaogfmefaaOpen
import Derived.Lib.SmallJoins
namespace Go.Proofs.Ythboanaogfmefaa
open Go.ChangeShapes Go.WideShapes Go.ChangeAt Go.RowKit

theorem cells_kid : Try.prog.cellsOf 37 = 2 := by kernel_rfl
theorem cells_kint : Try.prog.cellsOf 3 = 1 := by kernel_rfl
theorem kidCells_cases (l : List (Int × Int)) (j : Nat) (u : Value) (h : (kidCells l)[j]? = some u) : ∃ i k, l[i]? = some k ∧ ((j = i * 2 ∧ u = .int .i64 k.1) ∨ (j = i * 2 + 1 ∧ u = .int .i64 k.2)) := by
  have hj : j < l.length * 2 := by rw [← kidCells_length]; exact (List.getElem?_eq_some_iff.1 h).1
  have hi : j / 2 < l.length := by omega
  have hk : l[j / 2]? = some l[j / 2] := List.getElem?_eq_getElem hi
  obtain ⟨g1, g2⟩ := kidCells_get l (j / 2) _ hk
  refine ⟨j / 2, _, hk, ?_⟩
  rcases Nat.mod_two_eq_zero_or_one j with q | q
  · have e : j / 2 * 2 = j := by omega
    rw [e, h] at g1
    exact Or.inl ⟨e.symm, Option.some.inj g1⟩
  · have e : j / 2 * 2 + 1 = j := by omega
    rw [e, h] at g2
    exact Or.inr ⟨e.symm, Option.some.inj g2⟩
theorem open_kids {H : Type} {enc : TypeId × Value → H} {W : World} {base : Nat} {held : Bool} {a : Option Addr} {len cap : Nat} {d : DataW H} {ps : List MemPlace}
    (h : DataW.Trod enc Try.prog W base (fun _ => true) held 30 (.slice a len cap) d ps) : ∃ l, RK W a len cap l := by
  obtain ⟨fuel, hf⟩ := h
  rcases Go.Deep.open_slice Try.underlying30 hf with ⟨hcs, _⟩ | ⟨ad, l, c, m, n, D, Pl, hcs, _, hl, hm, hmm, _, hi⟩
  · simp [Value.cells] at hcs
    obtain ⟨rfl, rfl, rfl⟩ := hcs
    exact ⟨[], rfl, Nat.le_refl _, Nat.zero_le _, fun _ => rfl, fun ad e => by cases e⟩
  · simp [Value.cells] at hcs
    obtain ⟨rfl, rfl, rfl⟩ := hcs
    have hml : len ≤ m := by rw [hmm]; split <;> omega
    have key : ∀ i, i < len → ∃ x y : Int, W.cell? (ad.add (i * 2)) = some (.int .i64 x) ∧ W.cell? ((ad.add (i * 2)).add 1) = some (.int .i64 y) := by
      intro i him
      obtain ⟨cs', hc, ht'⟩ := hi i (by omega)
      rw [cells_kid] at hc
      obtain ⟨xs, k, _, _, _, hlen, hg⟩ := DataW.trod_struct Try.underlying37 ht'
      obtain ⟨_, hcl, hat⟩ := World.cells?_some hc
      match cs', hcl with
      | [c0, c1], _ =>
        match xs, hlen with
        | [y0, y1], _ =>
          have g0 : DataW.trod enc Try.prog W base (fun _ => true) held k 3 (([c0, c1].drop 0).take (Try.prog.cellsOf 3)) = some y0 := hg 0 _ rfl
          have g1 : DataW.trod enc Try.prog W base (fun _ => true) held k 3 (([c0, c1].drop 1).take (Try.prog.cellsOf 3)) = some y1 := hg 1 _ rfl
          rw [cells_kint] at g0 g1
          obtain ⟨a0, h0, _, w0⟩ := DataW.trod_int Try.underlying3 g0
          obtain ⟨a1, h1, _, w1⟩ := DataW.trod_int Try.underlying3 g1
          simp at h0 h1
          subst h0 h1
          have q0 := hat 0 (by decide)
          have q1 := hat 1 (by decide)
          refine ⟨a0, a1, ?_, q1⟩
          have e : (ad.add (i * 2)).add 0 = ad.add (i * 2) := by generalize ad.add (i * 2) = b; unfold Addr.add; exact if_pos rfl
          rwa [e] at q0
    refine ⟨(List.range len).map fun i => if hi : i < len then ((key i hi).choose, (key i hi).choose_spec.choose) else (0, 0), by rw [kidCells_length]; simp, hl, hm, (fun e => by cases e), fun ad' e j u hu => ?_⟩
    cases e
    obtain ⟨i, k, hk, hc⟩ := kidCells_cases _ j u hu
    have hil : i < len := by have := (List.getElem?_eq_some_iff.1 hk).1; simpa using this
    rw [List.getElem?_map, List.getElem?_range hil] at hk
    simp only [Option.map_some] at hk
    rw [dif_pos hil] at hk
    cases hk
    have sp := (key i hil).choose_spec.choose_spec
    rcases hc with ⟨rfl, rfl⟩ | ⟨rfl, rfl⟩
    · exact sp.1
    · refine Eq.trans (congrArg W.cell? ?_) sp.2
      rw [Addr.add_add]
end Go.Proofs.Ythboanaogfmefaa
