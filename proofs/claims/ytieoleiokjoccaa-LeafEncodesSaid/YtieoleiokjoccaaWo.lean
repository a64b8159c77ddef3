/- The readers' Bytes, Num, Left, Err, of any reader. -/
import Derived.Test.YtieoleiokjoccaaWs
import Derived.Test.YtieoleiokjoccaaWa
namespace Go.Proofs.Ytieoleiokjoccaa
open Go.RowKit

theorem grown_below {w w1 w2 : World} {g : Option Nat} (h : w.grownBy w1 g) (b : Below w1.heap.size w1 w2) : w.grownBy w2 g :=
  World.grownBy.trans h ⟨b.os, b.tape, b.output, b.size, fun k hk _ => b.block k hk⟩

set_option maxHeartbeats 1000000 in
theorem Bytes_any (g : Nat) (B : List UInt8) (at_ : Nat) (e k : Int) (w : World) (h : Rd w g B at_ e) (hk : -9223372036854775808 ≤ k ∧ k ≤ 9223372036854775807) :
    Calls Try.prog 47 #[.pointer (some ⟨g, 0, none⟩), .int .i64 k] w fun en w' => ∃ gb m, en = .returned (.slice (some ⟨gb, 0, none⟩) m m) ∧ w.heap.size ≤ gb ∧ OB w' gb m m (bytesS B at_ e k).1 ∧ Rd w' g B (bytesS B at_ e k).2.1 (bytesS B at_ e k).2.2 ∧ w.grownBy w' (some g) := by
  have hle := h.le
  have con := take_calls g B at_ e k w h hk
  unfold Took at con
  by_cases hy : e = 0 ∧ 0 ≤ k ∧ k ≤ (B.length : Int) - (at_ : Int)
  · have e1 : bytesS B at_ e k = ((B.drop at_).take k.toNat, at_ + k.toNat, 0) := by unfold bytesS; rw [if_pos hy]
    rw [e1]
    simp only [if_pos hy] at con
    have hb : k.toNat ≤ 140737488355328 := by omega
    generalize k.toNat = m at *
    clear hy e1 hle
    go_enter Try.func47, Try.ntmps47
    go_wp2_with (first
      | (go_at_call 56; refine (grown_calls _ _ _ 0 _ _ r1 (by omega)).mono ?_; rintro en w2 ⟨g2, rfl, s2, o2, x2⟩)
      | (go_at_call 71; refine con.mono ?_; rintro en w1 ⟨r, rfl, ⟨A1, rfl, r1, d1⟩, g1⟩))
    go_ret
    exact ⟨g2, m, rfl, Nat.le_trans g1.size s2, o2, d1.below x2, grown_below g1 x2⟩
  · have e1 : bytesS B at_ e k = ([], at_, if e = 0 then 10 else e) := by unfold bytesS; rw [if_neg hy]
    rw [e1]
    simp only [if_neg hy] at con
    simp only
    generalize (if e = 0 then 10 else e) = er at con ⊢
    clear hy e1 hle
    go_enter Try.func47, Try.ntmps47
    go_wp2_with (first
      | (go_at_call 56; refine (grown_calls none 0 0 0 [] _ (RB.nil _) (by omega)).mono ?_; rintro en w2 ⟨g2, rfl, s2, o2, x2⟩)
      | (go_at_call 71; refine con.mono ?_; rintro en w1 ⟨r, rfl, ⟨rfl, d1⟩, g1⟩))
    go_ret
    exact ⟨g2, 0, rfl, Nat.le_trans g1.size s2, o2, d1.below x2, grown_below g1 x2⟩

end Go.Proofs.Ytieoleiokjoccaa
