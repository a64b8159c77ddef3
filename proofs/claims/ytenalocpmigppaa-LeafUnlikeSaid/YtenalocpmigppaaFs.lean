/- coppicelaw4.LeafUnlike. -/
import Derived.Test.YtenalocpmigppaaFr
namespace Go.Proofs.Ytenalocpmigppaa
open Go.RowKit

set_option maxRecDepth 100000 in
set_option maxHeartbeats 4000000 in
theorem LeafUnlike_walk (A : Option Addr) (n c : Nat) (vs : List Value) (l : List It) (A' : Option Addr) (n' c' : Nat) (vs' : List Value) (l' : List It) (w : World) (h : RT w A n c vs l) (h' : RT w A' n' c' vs' l') :
    Calls Try.prog 7 #[.slice A n c, .slice A' n' c'] w fun e w' => e = .returned (.bool true) ∧ Below w.heap.size w w' := by
  have F1 := fun W q => short_calls A n c vs l W q
  have F2 := fun W q => short_calls A' n' c' vs' l' W q
  obtain ⟨f, hf⟩ : ∃ f, shortT l = f := ⟨_, rfl⟩
  obtain ⟨f', hf'⟩ : ∃ f, shortT l' = f := ⟨_, rfl⟩
  rw [hf] at F1
  rw [hf'] at F2
  have HF := hideIt hf
  have HF' := hideIt hf'
  clear hf hf'
  go_enter Try.func7, Try.ntmps7
  go_upto_region 2 with (go_at_call 11; refine (first_calls _).mono ?_; rintro en w1 ⟨rfl, b1⟩)
  have h1 := h.below b1
  have h1' := h'.below b1
  clear h h'
  cases f
  · go_wp2_with (go_at_call 12; (with_reducible refine (F1 _ h1).mono ?_); rintro en wx ⟨rfl, rfl⟩)
    go_ret
    exact ⟨rfl, b1⟩
  cases f'
  · go_wp2_with (first
      | (go_at_call 12; (with_reducible refine (F1 _ h1).mono ?_); rintro en wx ⟨rfl, rfl⟩)
      | (go_at_call 12; (with_reducible refine (F2 _ h1').mono ?_); rintro en wx ⟨rfl, rfl⟩))
    go_ret
    exact ⟨rfl, b1⟩
  have s1 := (short_of HF.out).1
  have s1' := (short_of HF'.out).1
  rw [h1.len] at s1
  rw [h1'.len] at s1'
  go_upto_region 4 with (first
      | (go_at_call 12; (with_reducible refine (F1 _ h1).mono ?_); rintro en wx ⟨rfl, rfl⟩)
      | (go_at_call 12; (with_reducible refine (F2 _ h1').mono ?_); rintro en wx ⟨rfl, rfl⟩))
  clear F1 F2
  have E1 := Encode_calls _ _ _ _ _ _ h1 (by omega)
  obtain ⟨x1, e1, hx1⟩ : ∃ b e, encT l = (b, e) := ⟨_, _, rfl⟩
  obtain ⟨x2, e2, hx2⟩ : ∃ b e, encT l' = (b, e) := ⟨_, _, rfl⟩
  rw [hx1] at E1
  have E2 := fun W q => Encode_calls A' n' c' vs' l' W q (by omega)
  rw [hx2] at E2
  have HX1 := hideIt hx1
  have HX2 := hideIt hx2
  clear hx1 hx2
  go_upto_region 5 with (go_at_call 23; refine E1.mono ?_; rintro en w2 ⟨Ax, nx, rfl, g2, y2⟩)
  have h2 := h1.below y2
  have h2' := h1'.below y2
  have b2 := blw_step b1 y2
  go_upto_region 6 with (go_at_call 23; refine (E2 _ h2').mono ?_; rintro en w3 ⟨Ay, ny, rfl, g3, y3⟩)
  have h3 := h2.below y3
  have h3' := h2'.below y3
  have g4 := g2.below y3
  have b3 := blw_step b2 y3
  clear E1 E2 h1 h1' h2 h2' g2 y2 y3 b1 b2 s1 s1' HF HF'
  by_cases z1 : e1 = 0
  · subst z1
    by_cases z2 : e2 = 0
    · subst z2
      obtain ⟨r, r1⟩ : ∃ r : Bool, (r = true ↔ l = l') := by
        by_cases q : l = l'
        · exact ⟨true, by simp [q]⟩
        · exact ⟨false, by simp [q]⟩
      have r2 : r = true ↔ x1 = x2 := by
        rw [r1]
        have hh := HX1.out
        have hh' := HX2.out
        unfold encT at hh hh'
        by_cases q : errT l = 0
        · by_cases q' : errT l' = 0
          · rw [if_pos q] at hh
            rw [if_pos q'] at hh'
            cases hh; cases hh'
            exact ⟨fun e => by rw [e], fun e => bodyT_inj q q' e⟩
          · rw [if_neg q'] at hh'
            exact absurd (congrArg Prod.snd hh') q'
        · rw [if_neg q] at hh
          exact absurd (congrArg Prod.snd hh) q
      have S1 := SameItems_calls _ _ _ _ _ _ _ _ _ _ _ h3 h3' r r1
      have S2 := fun W q q' => SameBytes_calls Ax Ay nx nx ny ny x1 x2 W q q' r (by rw [← Bool.coe_iff_coe, r2, decide_eq_true_iff])
      have rr : (r == r) = true := beq_self_eq_true r
      clear r1 r2
      go_wp2_with (first
        | (go_at_call 24; refine (num_calls _ _).mono ?_; rintro en wx ⟨rfl, rfl⟩)
        | (go_at_call 26; refine S1.mono ?_; rintro en w4 ⟨rfl, y4⟩; have b4 := blw_step b3 y4; have p4 := (g4.below y4).read; have q4 := (g3.below y4).read)
        | (go_at_call 27; refine (S2 _ p4 q4).mono ?_; rintro en wx ⟨rfl, rfl⟩))
      go_ret
      exact ⟨rfl, b4⟩
    · have t : (e2 != 0) = true := by rw [bne_iff_ne]; exact z2
      clear z2 h3 h3' g4 g3
      go_wp2_with (go_at_call 24; refine (num_calls _ _).mono ?_; rintro en wx ⟨rfl, rfl⟩)
      go_ret
      exact ⟨rfl, b3⟩
  · have t : (e1 != 0) = true := by rw [bne_iff_ne]; exact z1
    clear z1 h3 h3' g4 g3
    go_wp2_with (go_at_call 24; refine (num_calls _ _).mono ?_; rintro en wx ⟨rfl, rfl⟩)
    go_ret
    exact ⟨rfl, b3⟩

end Go.Proofs.Ytenalocpmigppaa
