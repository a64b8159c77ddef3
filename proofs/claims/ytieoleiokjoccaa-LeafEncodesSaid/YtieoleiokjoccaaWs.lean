/- The contracts of wire.NewReader and (*wire.Reader).take. -/
import Derived.Test.YtieoleiokjoccaaWr
namespace Go.Proofs.Ytieoleiokjoccaa
open Go.RowKit

set_option maxHeartbeats 400000 in
theorem NewReader_calls (A : Option Addr) (n c : Nat) (xs : List UInt8) (w : World) (hx : RB w A n c xs) (hb : n ≤ 140737488355328) :
    Calls Try.prog 46 #[.slice A n c] w fun e w' => ∃ g, e = .returned (.pointer (some ⟨g, 0, none⟩)) ∧ w.heap.size ≤ g ∧ Rd w' g xs 0 0 ∧ Below w.heap.size w w' := by
  go_enter Try.func46, Try.ntmps46
  go_wp2_with (go_at_call 56; refine (grown_calls _ _ _ 0 _ _ hx (by omega)).mono ?_; rintro e w1 ⟨g1, rfl, s1, o1, b1⟩)
  have z1 := b1.size
  go_ret
  exact ⟨_, rfl, z1, Rd.new o1 hb (by decide), b1.alloc z1 _⟩

theorem Rd.setAtI {w : World} {g : Nat} {B : List UInt8} {at_ : Nat} {e : Int} (h : Rd w g B at_ e) (v : Int) (a' : Nat) (hv : v = (a' : Int)) (ha : a' ≤ B.length) : Rd (w.setCell ⟨g, 1, none⟩ (.int .i64 v)) g B a' e := by
  subst hv; exact h.setAt a' ha
theorem RB.zero (w : World) (A : Option Addr) : RB w A 0 0 [] := ⟨rfl, Nat.le_refl _, Nat.zero_le _, fun _ => rfl, fun ad _ j u hu => by simp [u8s] at hu⟩
theorem grownBy_drewSet (w : World) (m g j : Nat) (v : Value) : w.grownBy ((w.drewN m).setCell ⟨g, j, none⟩ v) (some g) := (grownBy_drewN w m _).trans (grownBy_set _ _ _ _)
/-- How take answers. -/
def Took (g : Nat) (B : List UInt8) (at_ : Nat) (e : Int) (k : Int) (r : Value) (w' : World) : Prop :=
  if e = 0 ∧ 0 ≤ k ∧ k ≤ (B.length : Int) - (at_ : Int) then ∃ A, r = .slice A k.toNat k.toNat ∧ RB w' A k.toNat k.toNat ((B.drop at_).take k.toNat) ∧ Rd w' g B (at_ + k.toNat) 0
  else r = .slice none 0 0 ∧ Rd w' g B at_ (if e = 0 then 10 else e)

set_option maxHeartbeats 1000000 in
theorem take_calls (g : Nat) (B : List UInt8) (at_ : Nat) (e : Int) (k : Int) (w : World) (h : Rd w g B at_ e) (hk : -9223372036854775808 ≤ k ∧ k ≤ 9223372036854775807) :
    Calls Try.prog 71 #[.pointer (some ⟨g, 0, none⟩), .int .i64 k] w fun en w' => ∃ r, en = .returned r ∧ Took g B at_ e k r w' ∧ w.grownBy w' (some g) := by
  obtain ⟨gb, n, c, c0, c1, c2, f1, f2, ob, ne, la, ln, lc⟩ := h.laid
  have HL := hideIt ob.len
  by_cases he : e = 0
  · subst he
    by_cases hin : 0 ≤ k ∧ k ≤ (n : Int) - (at_ : Int)
    · obtain ⟨m, rfl⟩ : ∃ m : Nat, k = (m : Int) := ⟨k.toNat, by omega⟩
      have hm : at_ + m ≤ n := by omega
      have hT : ∀ r w', (∃ A, r = .slice A m m ∧ RB w' A m m ((B.drop at_).take m) ∧ Rd w' g B (at_ + m) 0) → Took g B at_ 0 (m : Int) r w' := by
        intro r w' q
        unfold Took
        rw [if_pos ⟨rfl, by omega, by rw [HL.out]; omega⟩]
        simpa using q
      have e1 : (((at_ + m : Nat) : Int)) = (at_ : Int) + (m : Int) := by omega
      have i1 : (m : Int) ≤ (n : Int) - (at_ : Int) := hin.2
      have i2 : (at_ : Int) ≤ (n : Int) := by omega
      have i3 : (at_ : Int) + (m : Int) ≤ (n : Int) := by omega
      have i4 : (n : Int) ≤ (c : Int) := by omega
      rcases Nat.eq_zero_or_pos m with h0 | h0
      · subst h0
        have i5 : (at_ : Int) ≤ (c : Int) := by omega
        go_enter Try.func71, Try.ntmps71
        go_wp2
        go_quiet (fail)
        go_wp2
        go_quiet (fail)
        go_wp2
        go_ret
        refine ⟨_, rfl, hT _ _ ⟨_, rfl, RB.zero _ _, ?_⟩, ?_⟩
        · exact (h.drewN _).setAtI _ _ (by omega) (by rw [HL.out]; exact hm)
        · exact grownBy_drewSet _ _ _ _ _
      · have cut := ob.read.cut (A' := some ⟨gb, at_, none⟩) at_ (at_ + m) (at_ + m) (by omega) hm (Nat.le_refl _) (by omega) (fun _ => by simp [Addr.add]) (fun q => by cases q)
        rw [Nat.add_sub_cancel_left] at cut
        have d0 : decide ((m : Int) < 0) = false := decide_eq_false (by omega)
        go_enter Try.func71, Try.ntmps71
        go_wp2
        go_quiet (fail)
        go_wp2
        go_quiet (fail)
        go_wp2
        go_ret
        rw [Nat.add_sub_cancel_left]
        refine ⟨_, rfl, hT _ _ ⟨_, rfl, ?_, ?_⟩, ?_⟩
        · exact cut.same (fun ad q _ => by cases q; exact Sm.setCell _ _ _ ne)
        · exact (h.drewN _).setAtI _ _ e1.symm (by rw [HL.out]; exact hm)
        · exact grownBy_drewSet _ _ _ _ _
    · have hT : ∀ w', Rd w' g B at_ 10 → Took g B at_ 0 k (.slice none 0 0) w' := by
        intro w' q
        unfold Took
        rw [HL.out, if_neg (fun p => hin ⟨p.2.1, p.2.2⟩), if_pos rfl]
        exact ⟨rfl, q⟩
      have i2 : (at_ : Int) ≤ (n : Int) := by omega
      by_cases hneg : k < 0
      · go_enter Try.func71, Try.ntmps71
        go_wp2
        go_quiet (fail)
        go_wp2
        go_ret
        exact ⟨_, rfl, hT _ ((h.drewN _).setErr 10), grownBy_drewSet _ _ _ _ _⟩
      · have d0 : decide (k < 0) = false := decide_eq_false hneg
        have k0 : 0 ≤ k := by omega
        have d1 : (n : Int) - (at_ : Int) < k := by omega
        go_enter Try.func71, Try.ntmps71
        go_wp2
        go_quiet (fail)
        go_wp2
        go_ret
        exact ⟨_, rfl, hT _ ((h.drewN _).setErr 10), grownBy_drewSet _ _ _ _ _⟩
  · have hE : (e == 0) = false := beq_eq_false_iff_ne.2 he
    have hT : ∀ w', Rd w' g B at_ e → Took g B at_ e k (.slice none 0 0) w' := by
      intro w' q
      unfold Took
      rw [if_neg (fun p => he p.1), if_neg he]
      exact ⟨rfl, q⟩
    go_enter Try.func71, Try.ntmps71
    go_wp2
    go_quiet (fail)
    go_wp2
    go_ret
    exact ⟨_, rfl, hT _ (h.drewN _), grownBy_drewN _ _ _⟩

theorem take_ok (g : Nat) (B : List UInt8) (at_ : Nat) (m : Nat) (w : World) (h : Rd w g B at_ 0) (hk : at_ + m ≤ B.length) :
    Calls Try.prog 71 #[.pointer (some ⟨g, 0, none⟩), .int .i64 (m : Int)] w fun en w' => ∃ A, en = .returned (.slice A m m) ∧ RB w' A m m ((B.drop at_).take m) ∧ Rd w' g B (at_ + m) 0 ∧ w.grownBy w' (some g) := by
  have l := h.le
  refine (take_calls g B at_ 0 m w h (by omega)).mono ?_
  rintro en w' ⟨r, rfl, q, gr⟩
  unfold Took at q
  rw [if_pos ⟨rfl, by omega, by omega⟩] at q
  obtain ⟨A, rfl, r1, d1⟩ := q
  exact ⟨A, rfl, r1, d1, gr⟩
end Go.Proofs.Ytieoleiokjoccaa
