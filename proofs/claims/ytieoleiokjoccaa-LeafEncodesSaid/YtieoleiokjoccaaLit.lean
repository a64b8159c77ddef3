/- Literals: a new block of given bytes. -/
import Derived.Test.YtieoleiokjoccaaRefA
namespace Go.Proofs.Ytieoleiokjoccaa
open Go.RowKit
theorem below1 (w : World) (o : Obj) : Below w.heap.size w (w.alloc o) := (Below.refl _ _).alloc (Nat.le_refl _) _
theorem lit_read (w : World) (xs : List UInt8) (n : Nat) (fr : Nat × Nat) (t : TypeId) (hn : xs.length = n) (hm : n ≤ 100) : RB (w.alloc (.cells (u8s xs).toArray t fr)) (some ⟨w.heap.size, 0, none⟩) n n xs :=
  RB.of_block xs n (heap_alloc_new w _) hn (by rw [maxLen_is]; omega)
theorem drew1 (w : World) : Below w.heap.size w w.drew := (Below.refl _ _).drew
theorem lit_two (w : World) (xs ys : List UInt8) (n m : Nat) (f1 f2 : Nat × Nat) (t1 t2 : TypeId) (hx : xs.length = n) (hy : ys.length = m) (h1 : n ≤ 100) (h2 : m ≤ 100) :
    RB ((w.alloc (.cells (u8s xs).toArray t1 f1)).alloc (.cells (u8s ys).toArray t2 f2)) (some ⟨w.heap.size, 0, none⟩) n n xs ∧ RB ((w.alloc (.cells (u8s xs).toArray t1 f1)).alloc (.cells (u8s ys).toArray t2 f2)) (some ⟨w.heap.size + 1, 0, none⟩) m m ys ∧ Below w.heap.size w ((w.alloc (.cells (u8s xs).toArray t1 f1)).alloc (.cells (u8s ys).toArray t2 f2)) := by
  have a := lit_read w xs n f1 t1 hx h1
  have b := lit_read (w.alloc (.cells (u8s xs).toArray t1 f1)) ys m f2 t2 hy h2
  have c := below1 (w.alloc (.cells (u8s xs).toArray t1 f1)) (.cells (u8s ys).toArray t2 f2)
  have e : (w.alloc (.cells (u8s xs).toArray t1 f1)).heap.size = w.heap.size + 1 := by simp
  refine ⟨a.below c, ?_, (below1 w _).trans (c.mono (by rw [e]; omega))⟩
  rwa [e] at b
/-- Two results: bytes that can be read, and a number. -/
def Two (w : World) (xs : List UInt8) (k : Int) (e : Ending) (w' : World) : Prop := ∃ A n c, e = .returned (.tuple #[.slice A n c, .int .i64 k]) ∧ RB w' A n c xs ∧ Below w.heap.size w w'
/-- A slice's length (for a loop's measure). -/
def lenOfS : Value → Nat | .slice _ n _ => n | _ => 0
end Go.Proofs.Ytieoleiokjoccaa
/- A byte of a memory turned: the place, the xor, the memory behind it. -/
namespace Go.Proofs.Ytieoleiokjoccaa
open Go.RowKit

theorem bits_xor8 (x y : UInt8) : bits .xor .u8 (x.toNat : Int) (y.toNat : Int) = ((x ^^^ y).toNat : Int) := by
  show IntKind.u8.wrap ((BitVec.ofInt 8 (x.toNat : Int) ^^^ BitVec.ofInt 8 (y.toNat : Int)).toNat : Int) = _
  have e : ∀ z : UInt8, BitVec.ofInt 8 (z.toNat : Int) = z.toBitVec := fun z => by
    refine BitVec.eq_of_toNat_eq ?_
    have := z.toNat_lt
    rw [BitVec.toNat_ofInt]
    show _ = z.toNat
    omega
  rw [e, e, IntKind.wrap_u8]
  show ((x ^^^ y).toNat : Int) % 256 = _
  have := (x ^^^ y).toNat_lt
  omega

/-- The place (a % n + n) % n. -/
theorem place (a : Int) (n : Nat) (hn : 0 < n) : ∃ (r : Int) (q : Nat), Int.tmod a n = r ∧ -(n : Int) < r ∧ r < n ∧ r % (n : Int) = (q : Int) ∧ q < n := by
  have h1 : Int.tmod a n < n := Int.tmod_lt_of_pos _ (by omega)
  have h2 : -(n : Int) < Int.tmod a n := by
    have := Int.lt_tmod_of_pos a (b := (n : Int)) (by omega)
    omega
  have h3 : 0 ≤ Int.tmod a n % (n : Int) := Int.emod_nonneg _ (by omega)
  have h4 : Int.tmod a n % (n : Int) < n := Int.emod_lt_of_pos _ (by omega)
  exact ⟨_, (Int.tmod a n % (n : Int)).toNat, rfl, h2, h1, by omega, by omega⟩
theorem byte_cell {w : World} {g N c : Nat} {ys : List UInt8} (h : OB w g N c ys) {q : Nat} (hq : q < N) {b : UInt8} (hb : Hid (ys.getD q 0 = b)) : w.cell? ⟨g, q, none⟩ = some (.int .u8 (b.toNat : Int)) := by
  have hl := h.len
  have := h.cell q (by omega)
  rw [this, ← hb.out, List.getD_eq_getElem?_getD, List.getElem?_eq_getElem (by omega)]; rfl
theorem byte_turn {w : World} {g N c : Nat} {ys : List UInt8} (h : OB w g N c ys) (q : Nat) (b x : UInt8) :
    OB (w.setCell ⟨g, q, none⟩ (.int .u8 (bits .xor .u8 (b.toNat : Int) (x.toNat : Int)))) g N c (ys.set q (b ^^^ x)) := by
  rw [bits_xor8]
  exact h.set q (b ^^^ x)
/-- The first n of a memory, cut l[:n:len(l)]. -/
theorem RB.front {w : World} {g N c n : Nat} {ys : List UInt8} (h : RB w (some ⟨g, 0, none⟩) N c ys) (hn : n ≤ N) : RB w (some ⟨g, 0, none⟩) n N (ys.take n) := by
  have hc := RC.le h
  have := h.cut (A' := some ⟨g, 0, none⟩) 0 n N (Nat.zero_le _) hn hn hc (fun _ => by simp [Addr.add]) (fun e => by cases e)
  simpa using this
end Go.Proofs.Ytieoleiokjoccaa
