/- Arguments opened: a slice of edits. -/
import Derived.Test.YthboanaogfmefaaQj
import Derived.Test.YthboanaogfmefaaOpen
import Derived.Lib.SmallJoins
namespace Go.Proofs.Ythboanaogfmefaa
open Go.ChangeShapes Go.WideShapes Go.ChangeAt Go.RowKit

theorem cells_edit : Try.prog.cellsOf 72 = 2 := by kernel_rfl
theorem cells_eint : Try.prog.cellsOf 3 = 1 := by kernel_rfl
theorem cells_eu8 : Try.prog.cellsOf 5 = 1 := by kernel_rfl
theorem edCells_cases (l : List (Int × UInt8)) (j : Nat) (u : Value) (h : (edCells l)[j]? = some u) : ∃ i k, l[i]? = some k ∧ ((j = i * 2 ∧ u = .int .i64 k.1) ∨ (j = i * 2 + 1 ∧ u = .int .u8 (k.2.toNat : Int))) := by
  have hj : j < l.length * 2 := by rw [← edCells_length]; exact (List.getElem?_eq_some_iff.1 h).1
  have hi : j / 2 < l.length := by omega
  have hk : l[j / 2]? = some l[j / 2] := List.getElem?_eq_getElem hi
  obtain ⟨g1, g2⟩ := edCells_get l (j / 2) _ hk
  refine ⟨j / 2, _, hk, ?_⟩
  rcases Nat.mod_two_eq_zero_or_one j with q | q
  · have e : j / 2 * 2 = j := by omega
    rw [e, h] at g1
    exact Or.inl ⟨e.symm, Option.some.inj g1⟩
  · have e : j / 2 * 2 + 1 = j := by omega
    rw [e, h] at g2
    exact Or.inr ⟨e.symm, Option.some.inj g2⟩
theorem open_edits {H : Type} {enc : TypeId × Value → H} {W : World} {base : Nat} {held : Bool} {a : Option Addr} {len cap : Nat} {d : DataW H} {ps : List MemPlace}
    (h : DataW.Trod enc Try.prog W base (fun _ => true) held 43 (.slice a len cap) d ps) : ∃ l, RE W a len cap l := by
  obtain ⟨fuel, hf⟩ := h
  rcases Go.Deep.open_slice Try.underlying43 hf with ⟨hcs, _⟩ | ⟨ad, l, c, m, n, D, Pl, hcs, _, hl, hm, hmm, _, hi⟩
  · simp [Value.cells] at hcs
    obtain ⟨rfl, rfl, rfl⟩ := hcs
    exact ⟨[], rfl, Nat.le_refl _, Nat.zero_le _, fun _ => rfl, fun ad e => by cases e⟩
  · simp [Value.cells] at hcs
    obtain ⟨rfl, rfl, rfl⟩ := hcs
    have hml : len ≤ m := by rw [hmm]; split <;> omega
    have key : ∀ i, i < len → ∃ (x : Int) (y : UInt8), W.cell? (ad.add (i * 2)) = some (.int .i64 x) ∧ W.cell? ((ad.add (i * 2)).add 1) = some (.int .u8 (y.toNat : Int)) := by
      intro i him
      obtain ⟨cs', hc, ht'⟩ := hi i (by omega)
      rw [cells_edit] at hc
      obtain ⟨xs, k, _, _, _, hlen, hg⟩ := DataW.trod_struct Try.underlying72 ht'
      obtain ⟨_, hcl, hat⟩ := World.cells?_some hc
      match cs', hcl with
      | [c0, c1], _ =>
        match xs, hlen with
        | [y0, y1], _ =>
          have g0 : DataW.trod enc Try.prog W base (fun _ => true) held k 3 (([c0, c1].drop 0).take (Try.prog.cellsOf 3)) = some y0 := hg 0 _ rfl
          have g1 : DataW.trod enc Try.prog W base (fun _ => true) held k 5 (([c0, c1].drop 1).take (Try.prog.cellsOf 5)) = some y1 := hg 1 _ rfl
          rw [cells_eint] at g0
          rw [cells_eu8] at g1
          obtain ⟨a0, h0, _, w0⟩ := DataW.trod_int Try.underlying3 g0
          obtain ⟨a1, h1, _, w1⟩ := DataW.trod_int Try.underlying5 g1
          simp at h0 h1
          subst h0 h1
          obtain ⟨b1, rfl⟩ := wf_byte w1
          have q0 := hat 0 (by decide)
          have q1 := hat 1 (by decide)
          refine ⟨a0, b1, ?_, q1⟩
          have e : (ad.add (i * 2)).add 0 = ad.add (i * 2) := by generalize ad.add (i * 2) = b; unfold Addr.add; exact if_pos rfl
          rwa [e] at q0
    refine ⟨(List.range len).map fun i => if hi : i < len then ((key i hi).choose, (key i hi).choose_spec.choose) else (0, 0), by rw [edCells_length]; simp, hl, hm, (fun e => by cases e), fun ad' e j u hu => ?_⟩
    cases e
    obtain ⟨i, k, hk, hc⟩ := edCells_cases _ j u hu
    have hil : i < len := by have := (List.getElem?_eq_some_iff.1 hk).1; simpa using this
    rw [List.getElem?_map, List.getElem?_range hil] at hk
    simp only [Option.map_some] at hk
    rw [dif_pos hil] at hk
    cases hk
    have sp := (key i hil).choose_spec.choose_spec
    rcases hc with ⟨rfl, rfl⟩ | ⟨rfl, rfl⟩
    · exact sp.1
    · refine Eq.trans (congrArg W.cell? ?_) sp.2
      rw [Addr.add_add]
end Go.Proofs.Ythboanaogfmefaa
