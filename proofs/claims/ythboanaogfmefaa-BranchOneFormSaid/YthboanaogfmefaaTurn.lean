/- A byte of a memory turned: the place, the xor, the memory behind it. -/
import Derived.Test.YthboanaogfmefaaRefA
namespace Go.Proofs.Ythboanaogfmefaa
open Go.RowKit

theorem bits_xor8 (x y : UInt8) : bits .xor .u8 (x.toNat : Int) (y.toNat : Int) = ((x ^^^ y).toNat : Int) := by
  show IntKind.u8.wrap ((BitVec.ofInt 8 (x.toNat : Int) ^^^ BitVec.ofInt 8 (y.toNat : Int)).toNat : Int) = _
  have e : ∀ z : UInt8, BitVec.ofInt 8 (z.toNat : Int) = z.toBitVec := fun z => by
    refine BitVec.eq_of_toNat_eq ?_
    have := z.toNat_lt
    rw [BitVec.toNat_ofInt]
    show _ = z.toNat
    omega
  rw [e, e, IntKind.wrap_u8]
  show ((x ^^^ y).toNat : Int) % 256 = _
  have := (x ^^^ y).toNat_lt
  omega

/-- The place (a % n + n) % n. -/
theorem place (a : Int) (n : Nat) (hn : 0 < n) : ∃ (r : Int) (q : Nat), Int.tmod a n = r ∧ -(n : Int) < r ∧ r < n ∧ r % (n : Int) = (q : Int) ∧ q < n := by
  have h1 : Int.tmod a n < n := Int.tmod_lt_of_pos _ (by omega)
  have h2 : -(n : Int) < Int.tmod a n := by
    have := Int.lt_tmod_of_pos a (b := (n : Int)) (by omega)
    omega
  have h3 : 0 ≤ Int.tmod a n % (n : Int) := Int.emod_nonneg _ (by omega)
  have h4 : Int.tmod a n % (n : Int) < n := Int.emod_lt_of_pos _ (by omega)
  exact ⟨_, (Int.tmod a n % (n : Int)).toNat, rfl, h2, h1, by omega, by omega⟩
theorem byte_cell {w : World} {g N c : Nat} {ys : List UInt8} (h : OB w g N c ys) {q : Nat} (hq : q < N) {b : UInt8} (hb : Hid (ys.getD q 0 = b)) : w.cell? ⟨g, q, none⟩ = some (.int .u8 (b.toNat : Int)) := by
  have hl := h.len
  have := h.cell q (by omega)
  rw [this, ← hb.out, List.getD_eq_getElem?_getD, List.getElem?_eq_getElem (by omega)]; rfl
theorem byte_turn {w : World} {g N c : Nat} {ys : List UInt8} (h : OB w g N c ys) (q : Nat) (b x : UInt8) :
    OB (w.setCell ⟨g, q, none⟩ (.int .u8 (bits .xor .u8 (b.toNat : Int) (x.toNat : Int)))) g N c (ys.set q (b ^^^ x)) := by
  rw [bits_xor8]
  exact h.set q (b ^^^ x)
/-- The first n of a memory, cut l[:n:len(l)]. -/
theorem RB.front {w : World} {g N c n : Nat} {ys : List UInt8} (h : RB w (some ⟨g, 0, none⟩) N c ys) (hn : n ≤ N) : RB w (some ⟨g, 0, none⟩) n N (ys.take n) := by
  have hc := RC.le h
  have := h.cut (A' := some ⟨g, 0, none⟩) 0 n N (Nat.zero_le _) hn hn hc (fun _ => by simp [Addr.add]) (fun e => by cases e)
  simpa using this
end Go.Proofs.Ythboanaogfmefaa
