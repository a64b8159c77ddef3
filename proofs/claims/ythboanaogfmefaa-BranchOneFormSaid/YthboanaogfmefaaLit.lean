/- Literals: a new block of given bytes. -/
import Derived.Test.YthboanaogfmefaaRefA
namespace Go.Proofs.Ythboanaogfmefaa
open Go.RowKit
theorem below1 (w : World) (o : Obj) : Below w.heap.size w (w.alloc o) := (Below.refl _ _).alloc (Nat.le_refl _) _
theorem lit_read (w : World) (xs : List UInt8) (n : Nat) (fr : Nat × Nat) (t : TypeId) (hn : xs.length = n) (hm : n ≤ 100) : RB (w.alloc (.cells (u8s xs).toArray t fr)) (some ⟨w.heap.size, 0, none⟩) n n xs :=
  RB.of_block xs n (heap_alloc_new w _) hn (by rw [maxLen_is]; omega)
theorem drew1 (w : World) : Below w.heap.size w w.drew := (Below.refl _ _).drew
theorem lit_two (w : World) (xs ys : List UInt8) (n m : Nat) (f1 f2 : Nat × Nat) (t1 t2 : TypeId) (hx : xs.length = n) (hy : ys.length = m) (h1 : n ≤ 100) (h2 : m ≤ 100) :
    RB ((w.alloc (.cells (u8s xs).toArray t1 f1)).alloc (.cells (u8s ys).toArray t2 f2)) (some ⟨w.heap.size, 0, none⟩) n n xs ∧ RB ((w.alloc (.cells (u8s xs).toArray t1 f1)).alloc (.cells (u8s ys).toArray t2 f2)) (some ⟨w.heap.size + 1, 0, none⟩) m m ys ∧ Below w.heap.size w ((w.alloc (.cells (u8s xs).toArray t1 f1)).alloc (.cells (u8s ys).toArray t2 f2)) := by
  have a := lit_read w xs n f1 t1 hx h1
  have b := lit_read (w.alloc (.cells (u8s xs).toArray t1 f1)) ys m f2 t2 hy h2
  have c := below1 (w.alloc (.cells (u8s xs).toArray t1 f1)) (.cells (u8s ys).toArray t2 f2)
  have e : (w.alloc (.cells (u8s xs).toArray t1 f1)).heap.size = w.heap.size + 1 := by simp
  refine ⟨a.below c, ?_, (below1 w _).trans (c.mono (by rw [e]; omega))⟩
  rwa [e] at b
/-- Two results: bytes that can be read, and a number. -/
def Two (w : World) (xs : List UInt8) (k : Int) (e : Ending) (w' : World) : Prop := ∃ A n c, e = .returned (.tuple #[.slice A n c, .int .i64 k]) ∧ RB w' A n c xs ∧ Below w.heap.size w w'
/-- A slice's length (for a loop's measure). -/
def lenOfS : Value → Nat | .slice _ n _ => n | _ => 0
end Go.Proofs.Ythboanaogfmefaa
