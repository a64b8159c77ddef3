/- Laws: a cut s[p:], s[:p] of bytes; Put16, PutV with the number told apart. -/
import Derived.Test.YthboanaogfmefaaPc
import Derived.Test.YthboanaogfmefaaWp16
namespace Go.Proofs.Ythboanaogfmefaa
open Go.RowKit

theorem RB.from_ {w : World} {A : Option Addr} {n c : Nat} {xs : List UInt8} (h : RB w A n c xs) (p d : Nat) (hp : p ≤ n) (hd : n - p = d) : RB w (if c = p then A else A.map (·.add p)) d (c - p) (xs.drop p) := by
  have hc := RC.le h
  have hl := h.len
  subst hd
  have := h.cut (A' := if c = p then A else A.map (·.add p)) p n c hp (Nat.le_refl _) hc (Nat.le_refl _) (fun e => by rw [if_neg e]) (fun e => by
    by_cases hcp : c = p
    · exact Or.inl hcp
    · rw [if_neg hcp] at e
      cases A with
      | none => exact Or.inr rfl
      | some ad => cases e)
  rwa [List.take_of_length_le (by rw [List.length_drop]; omega)] at this
theorem elem_bytes : Try.prog.elem 28 = 5 := by kernel_rfl
section
variable {w : World} {ops : Array Oper} {rest : List Oper} {o : Oper} {a : Act} {Q : Exit → Act → World → Prop}
/-- s[p:] -/
theorem wpS_from (hgd : o.guard = none) (x lo : Operand) (hop : o.op = Op.slice 28 x (some lo) none none) (A : Option Addr) (n c : Nat) (xs : List UInt8) (hx : a.eval x = .slice A n c) (hr : RB w A n c xs)
    (z : Int) (p d : Nat) (hlo : a.eval lo = .int .i64 z) (hz : z = (p : Int)) (hp : p ≤ n) (hd : n - p = d)
    (h : ∀ A' c', RB w A' d c' (xs.drop p) → wpList Try.prog ops Q rest (a.put o.dst (.slice A' d c')) w) : wpList Try.prog ops Q (o :: rest) a w := by
  have hm := RC.le hr
  refine wpList_plain hgd fun K hK' => ?_
  have hrun : (Instr.sliceAt 28 (.slice A n c) (some (.int .i64 z)) none none).run Try.prog w = .ok (.slice (if c = p then A else A.map (·.add p)) d (c - p)) w := by
    subst hz hd
    have h1 : (0 : Int) ≤ (p : Int) ∧ (p : Int) ≤ (n : Int) := by omega
    rw [run_sliceAt_slice _ _ _ _ _ _ Try.underlying28, run_slice_l _ _ _ _ _ Try.underlying28 _ _ h1.1 h1.2]
    simp [sliced, elem_bytes]
  unfold Oper.wp
  simp [execOp, hop, hx, hlo, hrun, Result.andThen]
  exact hK' _ _ (h _ _ (hr.from_ p d hp hd))
/-- s[:p] -/
theorem wpS_to (hgd : o.guard = none) (x hi : Operand) (hop : o.op = Op.slice 28 x none (some hi) none) (A : Option Addr) (n c : Nat) (xs : List UInt8) (hx : a.eval x = .slice A n c) (hr : RB w A n c xs)
    (z : Int) (p : Nat) (hhi : a.eval hi = .int .i64 z) (hz : z = (p : Int)) (hp : p ≤ n)
    (h : RB w A p c (xs.take p) → wpList Try.prog ops Q rest (a.put o.dst (.slice A p c)) w) : wpList Try.prog ops Q (o :: rest) a w := by
  have hm := RC.le hr
  refine wpList_plain hgd fun K hK' => ?_
  have hrun : (Instr.sliceAt 28 (.slice A n c) none (some (.int .i64 z)) none).run Try.prog w = .ok (.slice A p c) w := by
    subst hz
    have h1 : (0 : Int) ≤ (p : Int) ∧ (p : Int) ≤ (c : Int) := by omega
    rw [run_sliceAt_slice _ _ _ _ _ _ Try.underlying28, run_slice_h _ _ _ _ _ Try.underlying28 _ _ h1.1 h1.2]
    simp [sliced, elem_bytes]
    cases A with
    | none => simp
    | some ad => rw [Option.map_some, Addr.add_zero']; exact fun _ => rfl
  unfold Oper.wp
  simp [execOp, hop, hx, hhi, hrun, Result.andThen]
  exact hK' _ _ (h (hr.take p hp))
end
theorem Put16_of (l : Nat) (A : Option Addr) (n c : Nat) (xs : List UInt8) (z : Int) (x : Nat) (w : World) (hx : RB w A n c xs) (hl : n + 2 = l) (hb : n ≤ 1000000) (hz : z = (x : Int)) (hxx : x < 65536) :
    Calls Try.prog 41 #[.slice A n c, .int .u16 z] w fun e w' => ∃ g c', e = .returned (.slice (some ⟨g, 0, none⟩) l c') ∧ w.heap.size ≤ g ∧ OB w' g l c' (xs ++ leB x 2) ∧ Below w.heap.size w w' := by
  subst hl hz
  exact Put16_calls A n c xs x w hx (by omega) (Nat.lt_of_lt_of_eq hxx (by decide))
theorem PutV_of (l : Nat) (A : Option Addr) (n c : Nat) (xs : List UInt8) (z : Int) (x : Nat) (w : World) (hx : RB w A n c xs) (hl : n + vl x = l) (hb : n ≤ 1000000) (hz : z = (x : Int)) (hxx : x ≤ 1000000) :
    Calls Try.prog 42 #[.slice A n c, .int .u64 z] w fun e w' => ∃ g c', e = .returned (.slice (some ⟨g, 0, none⟩) l c') ∧ w.heap.size ≤ g ∧ OB w' g l c' (xs ++ vF 9 x) ∧ Below w.heap.size w w' := by
  subst hz
  have hn := hx.len
  refine (PutV_calls A n c xs x w hx (by omega) (by omega)).mono ?_
  rintro e w' ⟨g, m, c', rfl, s, o, b⟩
  have := o.len
  rw [List.length_append, hn] at this
  obtain rfl : l = m := by rw [← hl, ← this]; rfl
  exact ⟨g, c', rfl, s, o, b⟩
end Go.Proofs.Ythboanaogfmefaa
