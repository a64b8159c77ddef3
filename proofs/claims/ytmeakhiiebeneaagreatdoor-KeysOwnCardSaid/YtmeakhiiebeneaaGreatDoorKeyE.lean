/- Walks of the chapter of keys: Valid, Within, and the laws' first. -/
import Derived.Test.YtmeakhiiebeneaaGreatDoorKeyD
import Derived.Lib.SmallJoins
namespace Go.Proofs.YtmeakhiiebeneaaGreatDoor
open Go.RowKit

set_option maxRecDepth 100000 in
set_option maxHeartbeats 400000 in
theorem Valid_calls (A : Option Addr) (n c : Nat) (w : World) (v : Bool) (hv : v = decide (1 ≤ n ∧ n ≤ 255)) :
    Calls Tryz.prog 61 #[.slice A n c] w fun e w' => e = .returned (.bool v) ∧ w = w' := by
  by_cases h1 : 1 ≤ n
  · by_cases h2 : n ≤ 255
    · rw [decide_eq_true ⟨h1, h2⟩] at hv
      subst hv
      have k1 : (1 : Int) ≤ (n : Int) := by omega
      have k2 : (n : Int) ≤ (255 : Int) := by omega
      go_enter Tryz.func61, Tryz.ntmps61
      go_wp2
      go_ret
      exact ⟨by simp, rfl⟩
    · rw [decide_eq_false (fun q => h2 q.2)] at hv
      subst hv
      have k1 : (1 : Int) ≤ (n : Int) := by omega
      have k2 : ¬ (n : Int) ≤ (255 : Int) := by omega
      go_enter Tryz.func61, Tryz.ntmps61
      go_wp2
      go_ret
      exact ⟨by first | (simp; done) | (simp; omega), rfl⟩
  · rw [decide_eq_false (fun q => h1 q.1)] at hv
    subst hv
    have k1 : ¬ (1 : Int) ≤ (n : Int) := by omega
    go_enter Tryz.func61, Tryz.ntmps61
    go_wp2
    go_ret
    exact ⟨rfl, rfl⟩
def within (xs lo hi : List UInt8) : Bool := decide (0 ≤ Key.cmpB xs lo) && (decide (hi.length = 0) || decide (Key.cmpB xs hi < 0))

set_option maxRecDepth 100000 in
set_option maxHeartbeats 1000000 in
theorem Within_calls (A0 : Option Addr) (n0 c0 : Nat) (xs : List UInt8) (A1 : Option Addr) (n1 c1 : Nat) (ys : List UInt8) (A2 : Option Addr) (n2 c2 : Nat) (zs : List UInt8) (w : World)
    (hx : RB w A0 n0 c0 xs) (hy : RB w A1 n1 c1 ys) (hz : RB w A2 n2 c2 zs) (v : Bool) (hv : v = within xs ys zs) :
    Calls Tryz.prog 62 #[.slice A0 n0 c0, .slice A1 n1 c1, .slice A2 n2 c2] w fun e w' => e = .returned (.bool v) ∧ w = w' := by
  unfold within at hv
  rw [hz.len] at hv
  obtain ⟨x, ex⟩ : ∃ x, Key.cmpB xs ys = x := ⟨_, rfl⟩
  obtain ⟨y, ey⟩ : ∃ y, Key.cmpB xs zs = y := ⟨_, rfl⟩
  rw [ex, ey] at hv
  have EX := hideIt ex
  have EY := hideIt ey
  clear ex ey
  have hcx := Compare_calls _ _ _ _ _ _ _ _ w hx hy
  have hcy := Compare_calls _ _ _ _ _ _ _ _ w hx hz
  rw [EX.out] at hcx
  rw [EY.out] at hcy
  by_cases k0 : 0 ≤ x
  · rw [decide_eq_true k0, Bool.true_and] at hv
    rcases Nat.eq_zero_or_pos n2 with h2 | h2
    · subst h2
      rw [decide_eq_true rfl, Bool.true_or] at hv
      subst hv
      go_enter Tryz.func62, Tryz.ntmps62
      go_wp2_with (go_at_call 13; refine hcx.mono ?_; rintro e w1 ⟨rfl, rfl⟩)
      go_ret
      exact ⟨rfl, rfl⟩
    · rw [decide_eq_false (by omega), Bool.false_or] at hv
      have h2' : (1 : Int) ≤ (n2 : Int) := by omega
      clear h2
      subst hv
      go_enter Tryz.func62, Tryz.ntmps62
      go_wp2_with (first
        | (go_at_call 13; ((with_reducible refine hcx.mono ?_); rintro e w1 ⟨rfl, rfl⟩))
        | (go_at_call 13; ((with_reducible refine hcy.mono ?_); rintro e w1 ⟨rfl, rfl⟩)))
      go_ret
      refine ⟨?_, rfl⟩
      show Ending.returned (.bool ((n2 : Int) == 0 || decide (y < 0))) = _
      rw [beq_eq_false_iff_ne.2 (by omega), Bool.false_or]
  · rw [decide_eq_false k0, Bool.false_and] at hv
    subst hv
    have k0' : x < 0 := by omega
    go_enter Tryz.func62, Tryz.ntmps62
    go_wp2_with (go_at_call 13; refine hcx.mono ?_; rintro e w1 ⟨rfl, rfl⟩)
    go_ret
    exact ⟨rfl, rfl⟩

end Go.Proofs.YtmeakhiiebeneaaGreatDoor
