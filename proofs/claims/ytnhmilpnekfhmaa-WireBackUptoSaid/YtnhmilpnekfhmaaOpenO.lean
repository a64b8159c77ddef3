/- Arguments opened: slices of coppicelaw1.Op (two ints and a bool) and of coppicelaw1.Number (a number and an int). -/
import Derived.Test.YtnhmilpnekfhmaaOpen
import Derived.Lib.SmallJoins
namespace Go.Proofs.Ytnhmilpnekfhmaa
open Go.ChangeShapes Go.WideShapes Go.ChangeAt Go.RowKit

theorem cells_op : Try.prog.cellsOf 34 = 3 := by kernel_rfl
theorem cells_number : Try.prog.cellsOf 45 = 2 := by kernel_rfl
theorem cells_int : Try.prog.cellsOf 3 = 1 := by kernel_rfl
theorem cells_u64 : Try.prog.cellsOf 23 = 1 := by kernel_rfl
theorem cells_bool : Try.prog.cellsOf 4 = 1 := by kernel_rfl

def OpI (z : Int) : Prop := -9223372036854775808 ≤ z ∧ z ≤ 9223372036854775807
/-- A slice of calls. -/
structure OpsAt (w : World) (A : Option Addr) (n c : Nat) (ops : List (Int × Int × Bool)) : Prop where
  len : ops.length = n
  le : n ≤ c
  mx : c ≤ maxLen
  cell : ∀ i, i < n → ∃ ad K N s, A = some ad ∧ ops[i]? = some (K, N, s) ∧ w.cell? (ad.add (i * 3)) = some (.int .i64 K) ∧ w.cell? ((ad.add (i * 3)).add 1) = some (.int .i64 N) ∧ w.cell? ((ad.add (i * 3)).add 2) = some (.bool s) ∧ OpI N
/-- A slice of numbers. -/
structure NumsAt (w : World) (A : Option Addr) (n c : Nat) (l : List (Nat × Int)) : Prop where
  len : l.length = n
  le : n ≤ c
  mx : c ≤ maxLen
  cell : ∀ i, i < n → ∃ ad x k, A = some ad ∧ l[i]? = some (x, k) ∧ w.cell? (ad.add (i * 2)) = some (.int .u64 (x : Nat)) ∧ w.cell? ((ad.add (i * 2)).add 1) = some (.int .i64 k) ∧ x < 18446744073709551616 ∧ OpI k
theorem cell_blk {w w' : World} {a : Addr} {u : Value} (h : w.cell? a = some u) (b : Below w.heap.size w w') : w'.cell? a = some u := (b.cell (World.block_lt_of_cell? w _ h)).trans h
theorem OpsAt.below {w w' : World} {A : Option Addr} {n c : Nat} {ops : List (Int × Int × Bool)} (h : OpsAt w A n c ops) (b : Below w.heap.size w w') : OpsAt w' A n c ops :=
  ⟨h.len, h.le, h.mx, fun i hi => by
    obtain ⟨ad, K, N, s, e, e2, h0, h1, h2, h3⟩ := h.cell i hi
    exact ⟨ad, K, N, s, e, e2, cell_blk h0 b, cell_blk h1 b, cell_blk h2 b, h3⟩⟩
theorem NumsAt.below {w w' : World} {A : Option Addr} {n c : Nat} {l : List (Nat × Int)} (h : NumsAt w A n c l) (b : Below w.heap.size w w') : NumsAt w' A n c l :=
  ⟨h.len, h.le, h.mx, fun i hi => by
    obtain ⟨ad, x, k, e, e2, h0, h1, h3⟩ := h.cell i hi
    exact ⟨ad, x, k, e, e2, cell_blk h0 b, cell_blk h1 b, h3⟩⟩

theorem open_ops {H : Type} {enc : TypeId × Value → H} {W : World} {base : Nat} {held : Bool} {a : Option Addr} {len cap : Nat} {d : DataW H} {ps : List MemPlace}
    (h : DataW.Trod enc Try.prog W base (fun _ => true) held 28 (.slice a len cap) d ps) : ∃ ops, OpsAt W a len cap ops := by
  obtain ⟨fuel, hf⟩ := h
  rcases Go.Deep.open_slice Try.underlying28 hf with ⟨hcs, _⟩ | ⟨ad, l, c, m, n, D, Pl, hcs, _, hl, hm, hmm, _, hi⟩
  · simp [Value.cells] at hcs
    obtain ⟨rfl, rfl, rfl⟩ := hcs
    exact ⟨[], rfl, Nat.le_refl _, Nat.zero_le _, fun i hi => absurd hi (by omega)⟩
  · simp [Value.cells] at hcs
    obtain ⟨rfl, rfl, rfl⟩ := hcs
    have hml : len ≤ m := by rw [hmm]; split <;> omega
    have key : ∀ i, i < len → ∃ K N s, W.cell? (ad.add (i * 3)) = some (.int .i64 K) ∧ W.cell? ((ad.add (i * 3)).add 1) = some (.int .i64 N) ∧ W.cell? ((ad.add (i * 3)).add 2) = some (.bool s) ∧ OpI N := by
      intro i him
      obtain ⟨cs', hc, ht'⟩ := hi i (by omega)
      rw [cells_op] at hc
      obtain ⟨xs, k, _, _, _, hlen, hg⟩ := DataW.trod_struct Try.underlying34 ht'
      obtain ⟨_, hcl, hat⟩ := World.cells?_some hc
      match cs', hcl with
      | [c0, c1, c2], _ =>
        match xs, hlen with
        | [y0, y1, y2], _ =>
          have g0 : DataW.trod enc Try.prog W base (fun _ => true) held k 3 (([c0, c1, c2].drop 0).take (Try.prog.cellsOf 3)) = some y0 := hg 0 _ rfl
          have g1 : DataW.trod enc Try.prog W base (fun _ => true) held k 3 (([c0, c1, c2].drop 1).take (Try.prog.cellsOf 3)) = some y1 := hg 1 _ rfl
          have g2 : DataW.trod enc Try.prog W base (fun _ => true) held k 4 (([c0, c1, c2].drop 2).take (Try.prog.cellsOf 4)) = some y2 := hg 2 _ rfl
          rw [cells_int] at g0 g1
          rw [cells_bool] at g2
          obtain ⟨a0, h0, _, w0⟩ := DataW.trod_int Try.underlying3 g0
          obtain ⟨a1, h1, _, w1⟩ := DataW.trod_int Try.underlying3 g1
          obtain ⟨a2, h2, _⟩ := DataW.trod_bool Try.underlying4 g2
          simp at h0 h1 h2
          subst h0 h1 h2
          have q0 := hat 0 (by decide)
          have q1 := hat 1 (by decide)
          have q2 := hat 2 (by decide)
          refine ⟨a0, a1, a2, ?_, q1, q2, wf_i64 w1⟩
          have e : (ad.add (i * 3)).add 0 = ad.add (i * 3) := by generalize ad.add (i * 3) = b; unfold Addr.add; exact if_pos rfl
          rwa [e] at q0
    refine ⟨(List.range len).map fun i => if hi : i < len then ((key i hi).choose, (key i hi).choose_spec.choose, (key i hi).choose_spec.choose_spec.choose) else (0, 0, false), by simp, hl, hm, fun i hi => ?_⟩
    have sp := (key i hi).choose_spec.choose_spec.choose_spec
    exact ⟨ad, _, _, _, rfl, by rw [List.getElem?_map, List.getElem?_range hi]; simp only [Option.map_some]; rw [dif_pos hi], sp⟩

theorem open_numbers {H : Type} {enc : TypeId × Value → H} {W : World} {base : Nat} {held : Bool} {a : Option Addr} {len cap : Nat} {d : DataW H} {ps : List MemPlace}
    (h : DataW.Trod enc Try.prog W base (fun _ => true) held 41 (.slice a len cap) d ps) : ∃ l, NumsAt W a len cap l := by
  obtain ⟨fuel, hf⟩ := h
  rcases Go.Deep.open_slice Try.underlying41 hf with ⟨hcs, _⟩ | ⟨ad, l, c, m, n, D, Pl, hcs, _, hl, hm, hmm, _, hi⟩
  · simp [Value.cells] at hcs
    obtain ⟨rfl, rfl, rfl⟩ := hcs
    exact ⟨[], rfl, Nat.le_refl _, Nat.zero_le _, fun i hi => absurd hi (by omega)⟩
  · simp [Value.cells] at hcs
    obtain ⟨rfl, rfl, rfl⟩ := hcs
    have hml : len ≤ m := by rw [hmm]; split <;> omega
    have key : ∀ i, i < len → ∃ (x : Nat) (k : Int), W.cell? (ad.add (i * 2)) = some (.int .u64 (x : Nat)) ∧ W.cell? ((ad.add (i * 2)).add 1) = some (.int .i64 k) ∧ x < 18446744073709551616 ∧ OpI k := by
      intro i him
      obtain ⟨cs', hc, ht'⟩ := hi i (by omega)
      rw [cells_number] at hc
      obtain ⟨xs, k, _, _, _, hlen, hg⟩ := DataW.trod_struct Try.underlying45 ht'
      obtain ⟨_, hcl, hat⟩ := World.cells?_some hc
      match cs', hcl with
      | [c0, c1], _ =>
        match xs, hlen with
        | [y0, y1], _ =>
          have g0 : DataW.trod enc Try.prog W base (fun _ => true) held k 23 (([c0, c1].drop 0).take (Try.prog.cellsOf 23)) = some y0 := hg 0 _ rfl
          have g1 : DataW.trod enc Try.prog W base (fun _ => true) held k 3 (([c0, c1].drop 1).take (Try.prog.cellsOf 3)) = some y1 := hg 1 _ rfl
          rw [cells_int] at g1
          rw [cells_u64] at g0
          obtain ⟨a0, h0, _, w0⟩ := DataW.trod_int Try.underlying23 g0
          obtain ⟨a1, h1, _, w1⟩ := DataW.trod_int Try.underlying3 g1
          simp at h0 h1
          subst h0 h1
          obtain ⟨x, rfl, hx⟩ := wf_u64 w0
          have q0 := hat 0 (by decide)
          have q1 := hat 1 (by decide)
          refine ⟨x, a1, ?_, q1, hx, wf_i64 w1⟩
          have e : (ad.add (i * 2)).add 0 = ad.add (i * 2) := by generalize ad.add (i * 2) = b; unfold Addr.add; exact if_pos rfl
          rwa [e] at q0
    refine ⟨(List.range len).map fun i => if hi : i < len then ((key i hi).choose, (key i hi).choose_spec.choose) else (0, 0), by simp, hl, hm, fun i hi => ?_⟩
    have sp := (key i hi).choose_spec.choose_spec
    exact ⟨ad, _, _, rfl, by rw [List.getElem?_map, List.getElem?_range hi]; simp only [Option.map_some]; rw [dif_pos hi], sp⟩
end Go.Proofs.Ytnhmilpnekfhmaa
