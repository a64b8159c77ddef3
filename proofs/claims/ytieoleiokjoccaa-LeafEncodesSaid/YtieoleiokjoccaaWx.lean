/- The document's reader: Num, Bytes, Left, of any reader. -/
import Derived.Test.YtieoleiokjoccaaWo
import Derived.Test.YtieoleiokjoccaaWt
namespace Go.Proofs.Ytieoleiokjoccaa
open Go.RowKit

set_option maxHeartbeats 1000000 in
theorem rNum_no (g : Nat) (B : List UInt8) (at_ W : Nat) (er : Int) (w : World) (h : Rd w g B at_ er) (hno : ¬ (er = 0 ∧ at_ + W ≤ B.length)) (hW : W ≤ 8) :
    Calls Try.prog 64 #[.pointer (some ⟨g, 0, none⟩), .int .i64 (W : Int)] w fun e w' => e = .returned (.int .u64 0) ∧ Rd w' g B at_ (if er = 0 then 10 else er) ∧ w.grownBy w' (some g) := by
  obtain ⟨gb, n, c, c0, c1, c2, f1, f2, ob, ne, la, ln, lc⟩ := h.laid
  have hl := ob.len
  by_cases he : er = 0
  · subst he
    have i1 : (n : Int) - (at_ : Int) < (W : Int) := by
      have : ¬ (at_ + W ≤ n) := fun q => hno ⟨rfl, by rw [hl]; exact q⟩
      omega
    rw [if_pos rfl]
    clear hno hl
    go_enter Try.func64, Try.ntmps64
    go_wp2
    go_quiet (fail)
    go_wp2
    go_ret
    exact ⟨rfl, (h.drewN _).setErr 10, grownBy_drewSet _ _ _ _ _⟩
  · have hE : (er == 0) = false := beq_eq_false_iff_ne.2 he
    rw [if_neg he]
    clear hno hl
    go_enter Try.func64, Try.ntmps64
    go_wp2
    go_ret
    exact ⟨rfl, h, World.grownBy.refl _ _⟩
theorem rNum_any (g : Nat) (B : List UInt8) (at_ W : Nat) (er : Int) (w : World) (h : Rd w g B at_ er) (hW : W ≤ 8) :
    Calls Try.prog 64 #[.pointer (some ⟨g, 0, none⟩), .int .i64 (W : Int)] w fun e w' => e = .returned (.int .u64 ((numS B at_ er W).1 : Nat)) ∧ Rd w' g B (numS B at_ er W).2.1 (numS B at_ er W).2.2 ∧ w.grownBy w' (some g) := by
  by_cases hy : er = 0 ∧ at_ + W ≤ B.length
  · have e1 : numS B at_ er W = (unle ((B.drop at_).take W), at_ + W, 0) := by unfold numS; rw [if_pos hy]
    rw [e1]
    obtain ⟨rfl, hy⟩ := hy
    exact Num_ok g B at_ W w h hy hW
  · have e1 : numS B at_ er W = (0, at_, if er = 0 then 10 else er) := by unfold numS; rw [if_neg hy]
    rw [e1]
    exact rNum_no g B at_ W er w h hy hW

set_option maxHeartbeats 1000000 in
theorem rBytes_no (g : Nat) (B : List UInt8) (at_ : Nat) (er k : Int) (w : World) (h : Rd w g B at_ er) (hno : ¬ (er = 0 ∧ 0 ≤ k ∧ k ≤ (B.length : Int) - (at_ : Int))) :
    Calls Try.prog 66 #[.pointer (some ⟨g, 0, none⟩), .int .i64 k] w fun e w' => e = .returned (.slice none 0 0) ∧ Rd w' g B at_ (if er = 0 then 10 else er) ∧ w.grownBy w' (some g) := by
  obtain ⟨gb, n, c, c0, c1, c2, f1, f2, ob, ne, la, ln, lc⟩ := h.laid
  have hl := ob.len
  by_cases he : er = 0
  · subst he
    rw [if_pos rfl]
    by_cases hneg : k < 0
    · have d0 : decide (k < 0) = true := decide_eq_true hneg
      clear hno hl
      go_enter Try.func66, Try.ntmps66
      go_wp2
      go_quiet (fail)
      go_wp2
      go_ret
      exact ⟨rfl, (h.drewN _).setErr 10, grownBy_drewSet _ _ _ _ _⟩
    · have d0 : decide (k < 0) = false := decide_eq_false hneg
      have k0 : 0 ≤ k := by omega
      have d1 : (n : Int) - (at_ : Int) < k := by
        have : ¬ (k ≤ (n : Int) - (at_ : Int)) := fun q => hno ⟨rfl, k0, by rw [hl]; exact q⟩
        omega
      clear hno hl
      go_enter Try.func66, Try.ntmps66
      go_wp2
      go_quiet (fail)
      go_wp2
      go_ret
      exact ⟨rfl, (h.drewN _).setErr 10, grownBy_drewSet _ _ _ _ _⟩
  · have hE : (er == 0) = false := beq_eq_false_iff_ne.2 he
    rw [if_neg he]
    clear hno hl
    go_enter Try.func66, Try.ntmps66
    go_wp2
    go_ret
    exact ⟨rfl, h, World.grownBy.refl _ _⟩
theorem rBytes_any (g : Nat) (B : List UInt8) (at_ : Nat) (er k : Int) (w : World) (h : Rd w g B at_ er) (hb : B.length ≤ 140737488351232) :
    Calls Try.prog 66 #[.pointer (some ⟨g, 0, none⟩), .int .i64 k] w fun e w' => ∃ A m c, e = .returned (.slice A m c) ∧ RB w' A m c (bytesS B at_ er k).1 ∧ Rd w' g B (bytesS B at_ er k).2.1 (bytesS B at_ er k).2.2 ∧ w.grownBy w' (some g) := by
  by_cases hy : er = 0 ∧ 0 ≤ k ∧ k ≤ (B.length : Int) - (at_ : Int)
  · have e1 : bytesS B at_ er k = ((B.drop at_).take k.toNat, at_ + k.toNat, 0) := by unfold bytesS; rw [if_pos hy]
    rw [e1]
    obtain ⟨rfl, h0, hy⟩ := hy
    obtain ⟨m, rfl⟩ : ∃ m : Nat, k = m := ⟨k.toNat, by omega⟩
    refine (rBytes_ok g B at_ m w h (by omega) hb).mono ?_
    rintro e w' ⟨gb, c, rfl, _, o, d, gx⟩
    exact ⟨_, _, _, rfl, o.read, d, gx⟩
  · have e1 : bytesS B at_ er k = ([], at_, if er = 0 then 10 else er) := by unfold bytesS; rw [if_neg hy]
    rw [e1]
    refine (rBytes_no g B at_ er k w h hy).mono ?_
    rintro e w' ⟨rfl, d, gx⟩
    exact ⟨_, _, _, rfl, RB.nil _, d, gx⟩
end Go.Proofs.Ytieoleiokjoccaa
