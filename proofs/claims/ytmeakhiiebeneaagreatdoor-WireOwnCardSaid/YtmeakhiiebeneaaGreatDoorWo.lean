/- The readers' Bytes, Num, Left, Err, of any reader. -/
import Derived.Test.YtmeakhiiebeneaaGreatDoorWs
import Derived.Test.YtmeakhiiebeneaaGreatDoorWa
namespace Go.Proofs.YtmeakhiiebeneaaGreatDoor
open Go.RowKit

theorem grown_below {w w1 w2 : World} {g : Option Nat} (h : w.grownBy w1 g) (b : Below w1.heap.size w1 w2) : w.grownBy w2 g :=
  World.grownBy.trans h ⟨b.os, b.tape, b.output, b.size, fun k hk _ => b.block k hk⟩

set_option maxHeartbeats 1000000 in
theorem Bytes_any (g : Nat) (B : List UInt8) (at_ : Nat) (e k : Int) (w : World) (h : Rd w g B at_ e) (hk : -9223372036854775808 ≤ k ∧ k ≤ 9223372036854775807) :
    Calls Tryz.prog 26 #[.pointer (some ⟨g, 0, none⟩), .int .i64 k] w fun en w' => ∃ gb m, en = .returned (.slice (some ⟨gb, 0, none⟩) m m) ∧ w.heap.size ≤ gb ∧ OB w' gb m m (bytesS B at_ e k).1 ∧ Rd w' g B (bytesS B at_ e k).2.1 (bytesS B at_ e k).2.2 ∧ w.grownBy w' (some g) := by
  have hle := h.le
  have con := take_calls g B at_ e k w h hk
  unfold Took at con
  by_cases hy : e = 0 ∧ 0 ≤ k ∧ k ≤ (B.length : Int) - (at_ : Int)
  · have e1 : bytesS B at_ e k = ((B.drop at_).take k.toNat, at_ + k.toNat, 0) := by unfold bytesS; rw [if_pos hy]
    rw [e1]
    simp only [if_pos hy] at con
    have hb : k.toNat ≤ 140737488355328 := by omega
    generalize k.toNat = m at *
    clear hy e1 hle
    go_enter Tryz.func26, Tryz.ntmps26
    go_wp2_with (first
      | (go_at_call 78; refine (grown_calls _ _ _ 0 _ _ r1 (by omega)).mono ?_; rintro en w2 ⟨g2, rfl, s2, o2, x2⟩)
      | (go_at_call 82; refine con.mono ?_; rintro en w1 ⟨r, rfl, ⟨A1, rfl, r1, d1⟩, g1⟩))
    go_ret
    exact ⟨g2, m, rfl, Nat.le_trans g1.size s2, o2, d1.below x2, grown_below g1 x2⟩
  · have e1 : bytesS B at_ e k = ([], at_, if e = 0 then 10 else e) := by unfold bytesS; rw [if_neg hy]
    rw [e1]
    simp only [if_neg hy] at con
    simp only
    generalize (if e = 0 then 10 else e) = er at con ⊢
    clear hy e1 hle
    go_enter Tryz.func26, Tryz.ntmps26
    go_wp2_with (first
      | (go_at_call 78; refine (grown_calls none 0 0 0 [] _ (RB.nil _) (by omega)).mono ?_; rintro en w2 ⟨g2, rfl, s2, o2, x2⟩)
      | (go_at_call 82; refine con.mono ?_; rintro en w1 ⟨r, rfl, ⟨rfl, d1⟩, g1⟩))
    go_ret
    exact ⟨g2, 0, rfl, Nat.le_trans g1.size s2, o2, d1.below x2, grown_below g1 x2⟩

set_option maxHeartbeats 1000000 in
theorem Left_calls (g : Nat) (B : List UInt8) (at_ : Nat) (e : Int) (w : World) (h : Rd w g B at_ e) :
    Calls Tryz.prog 27 #[.pointer (some ⟨g, 0, none⟩)] w fun en w' => en = .returned (.int .i64 (leftS B at_ e : Nat)) ∧ ∃ j, w' = w.drewN j := by
  obtain ⟨gb, n, c, c0, c1, c2, f1, f2, ob, ne, la, ln, lc⟩ := h.laid
  have hl := ob.len
  by_cases he : e = 0
  · subst he
    have e1 : ((leftS B at_ 0 : Nat) : Int) = (n : Int) - (at_ : Int) := by unfold leftS; rw [if_pos rfl, hl]; omega
    rw [e1]
    clear e1 hl
    go_enter Tryz.func27, Tryz.ntmps27
    go_wp2
    go_quiet (fail)
    go_wp2
    go_ret
    exact ⟨rfl, _, rfl⟩
  · have e1 : leftS B at_ e = 0 := by unfold leftS; rw [if_neg he]
    rw [e1]
    have hE : (e == 0) = false := beq_eq_false_iff_ne.2 he
    go_enter Tryz.func27, Tryz.ntmps27
    go_wp2
    go_ret
    exact ⟨rfl, 0, rfl⟩

end Go.Proofs.YtmeakhiiebeneaaGreatDoor
