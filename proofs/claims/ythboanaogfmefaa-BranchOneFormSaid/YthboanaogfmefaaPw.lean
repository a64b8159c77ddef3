/- coppicelaw5.BranchOneForm. -/
import Derived.Test.YthboanaogfmefaaPv
namespace Go.Proofs.Ythboanaogfmefaa
open Go.RowKit

set_option maxRecDepth 100000 in
set_option maxHeartbeats 1000000 in
theorem BranchOneForm_walk (A0 : Option Addr) (n0 c0 : Nat) (b : List UInt8) (level : Int) (A : Option Addr) (n c : Nat) (vs : List Value) (l : List (List UInt8)) (B : Option Addr) (m d : Nat) (ks : List (Int × Int)) (at_ : Int) (x : UInt8) (w : World) (h0 : RB w A0 n0 c0 b) (_y0 : n0 ≤ 140737488351232) (_hz : -9223372036854775808 ≤ level ∧ level ≤ 9223372036854775807) (h : RM w A n c vs l) (hk : RK w B m d ks) (ha : -9223372036854775808 ≤ at_ ∧ at_ ≤ 9223372036854775807) :
    Calls Try.prog 8 #[.slice A0 n0 c0, .int .i64 level, .slice A n c, .slice B m d, .int .i64 at_, .int .u8 (x.toNat : Int)] w fun e w' => e = .returned (.bool true) ∧ Below w.heap.size w w' := by
  have FW := fun W q => few_calls A n c vs l B m d W q
  obtain ⟨f, hf⟩ : ∃ f, fewS l m = f := ⟨_, rfl⟩
  rw [hf] at FW
  have HF := hideIt hf
  clear hf
  go_enter Try.func8, Try.ntmps8
  go_upto_region 2 with (go_at_call 12; refine (first_calls _).mono ?_; rintro en w1 ⟨rfl, b1⟩)
  have h01 := h0.below b1
  have h1 := h.below b1
  have hk1 := hk.below b1
  by_cases hn : n0 ≤ 65536
  · have t1 : decide ((65536 : Int) < (n0 : Int)) = false := decide_eq_false (by omega)
    cases f
    · go_wp2_with (go_at_call 13; refine (FW _ h1).mono ?_; rintro en wx ⟨rfl, rfl⟩)
      go_ret
      exact ⟨rfl, b1⟩
    · have EN := Encode_calls level _ _ _ _ _ _ _ _ _ _ h1 (few_few HF.out h.len) hk1
      generalize encB level l ks = eb at EN
      go_upto_region 4 with (go_at_call 13; refine (FW _ h1).mono ?_; rintro en wx ⟨rfl, rfl⟩)
      go_upto_region 5 with (go_at_call 21; refine EN.mono ?_; rintro en w2 ⟨A2, n2, rfl, g2, x2⟩)
      have r2 := GB.read g2
      have h02 := h01.below x2
      have b2 := blw_step b1 x2
      clear EN FW h1 hk1 h hk h0 h01 b1 g2 x2
      go_upto_region 6 with (go_at_call 32; refine (oneForm_calls _ _ _ _ _ _ _ h02 ha).mono ?_; rintro en w3 ⟨rfl, x3⟩)
      have r3 := r2.below x3
      have b3 := blw_step b2 x3
      clear h02 r2 b2 x3
      go_wp2_with (go_at_call 32; refine (oneForm_calls _ _ _ _ _ _ _ r3 ha).mono ?_; rintro en w4 ⟨rfl, x4⟩)
      go_ret
      exact ⟨rfl, blw_step b3 x4⟩
  · have t1 : decide ((65536 : Int) < (n0 : Int)) = true := decide_eq_true (by omega)
    clear hn
    go_wp2
    go_ret
    exact ⟨rfl, b1⟩
end Go.Proofs.Ythboanaogfmefaa
