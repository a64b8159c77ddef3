/- coppicelaw4.LeafLaid. -/
import Derived.Test.YtenalocpmigppaaFx
namespace Go.Proofs.Ytenalocpmigppaa
open Go.RowKit

set_option maxRecDepth 100000 in
set_option maxHeartbeats 4000000 in
theorem LeafLaid_walk (A : Option Addr) (n c : Nat) (vs : List Value) (l : List It) (w : World) (h : RT w A n c vs l) :
    Calls Try.prog 9 #[.slice A n c] w fun e w' => e = .returned (.bool true) ∧ Below w.heap.size w w' := by
  have F1 := fun W q => short_calls A n c vs l W q
  obtain ⟨f, hf⟩ : ∃ f, shortT l = f := ⟨_, rfl⟩
  rw [hf] at F1
  cases f
  · clear hf
    go_enter Try.func9, Try.ntmps9
    go_upto_region 2 with (go_at_call 11; refine (first_calls _).mono ?_; rintro en w1 ⟨rfl, b1⟩)
    have h1 := h.below b1
    go_wp2_with (go_at_call 12; (with_reducible refine (F1 _ h1).mono ?_); rintro en wx ⟨rfl, rfl⟩)
    go_ret
    exact ⟨rfl, b1⟩
  by_cases hw : errT l = 0
  · clear F1
    exact LeafLaid_ok A n c vs l w h hf hw
  have W1 := fun W q => Wrong_calls A n c vs l W q
  by_cases hw0 : wrongT l = 0
  · have hz : 4092 < sizeT l ∧ errT l = 42 := by
      unfold errT at hw ⊢
      rw [if_pos hw0] at hw ⊢
      by_cases q : 4092 < sizeT l
      · exact ⟨q, if_pos q⟩
      · rw [if_neg q] at hw; exact absurd rfl hw
    obtain ⟨hz1, hz2⟩ := hz
    rw [hw0] at W1
    have n7 := (short_of hf).1
    rw [h.len] at n7
    have E1 := fun W q => Encode_no A n c vs l W q (by omega) hw
    rw [hz2] at E1
    have S1 := fun W q => Size_calls A n c vs l W q (short_few hf h.len)
    generalize sizeT l = Z at hz1 S1
    have zz : (4092 : Int) < (Z : Int) := by omega
    clear hf hw hw0 hz1 hz2
    go_enter Try.func9, Try.ntmps9
    go_upto_region 2 with (go_at_call 11; refine (first_calls _).mono ?_; rintro en w1 ⟨rfl, b1⟩)
    have h1 := h.below b1
    go_upto_region 4 with (first
      | (go_at_call 12; (with_reducible refine (F1 _ h1).mono ?_); rintro en wx ⟨rfl, rfl⟩)
      | (go_at_call 28; (with_reducible refine (W1 _ h1).mono ?_); rintro en w2 ⟨rfl, y2⟩))
    have h2 := h1.below y2
    have b2 := blw_step b1 y2
    clear F1 W1 h1 b1 y2
    go_upto_region 5 with (go_at_call 14; (with_reducible refine (S1 _ h2).mono ?_); rintro en w3 ⟨rfl, y3⟩)
    have h3 := h2.below y3
    have b3 := blw_step b2 y3
    clear S1 h2 b2 y3
    go_upto_region 6 with (go_at_call 23; (with_reducible refine (E1 _ h3).mono ?_); rintro en w4 ⟨rfl, y4⟩)
    have b4 := blw_step b3 y4
    clear E1 h3 b3 y4 h
    go_wp2_with (go_at_call 24; refine (num_calls _ _).mono ?_; rintro en wx ⟨rfl, rfl⟩)
    go_ret
    exact ⟨rfl, b4⟩
  · generalize wrongT l = e at hw0 W1
    have t : (e != 0) = true := by rw [bne_iff_ne]; exact hw0
    clear hf hw hw0
    go_enter Try.func9, Try.ntmps9
    go_upto_region 2 with (go_at_call 11; refine (first_calls _).mono ?_; rintro en w1 ⟨rfl, b1⟩)
    have h1 := h.below b1
    go_wp2_with (first
      | (go_at_call 12; (with_reducible refine (F1 _ h1).mono ?_); rintro en wx ⟨rfl, rfl⟩)
      | (go_at_call 28; (with_reducible refine (W1 _ h1).mono ?_); rintro en w2 ⟨rfl, y2⟩; have b2 := blw_step b1 y2))
    go_ret
    exact ⟨rfl, b2⟩
end Go.Proofs.Ytenalocpmigppaa
