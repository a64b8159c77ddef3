/- coppiceref6: body, EncodeData, EncodeList. -/
import Derived.Test.YtmeakhiiebeneaaGreatDoorNh
import Derived.Deep.QuietTactic
import Derived.BigQuiet
namespace Go.Proofs.YtmeakhiiebeneaaGreatDoor
open Go.RowKit

theorem u8_kind (k : UInt8) : (k.toNat : Int) % 256 = (k.toNat : Int) := by have := k.toNat_lt; omega
theorem zer_snoc (P : List UInt8) (L : Nat) (h : P.length ≤ L) : P ++ zer (L - P.length) ++ [0] = P ++ zer (L + 1 - P.length) := by
  rw [List.append_assoc]
  congr 1
  unfold zer
  rw [show L + 1 - P.length = (L - P.length) + 1 by omega, List.replicate_succ']
set_option maxRecDepth 100000 in
set_option maxHeartbeats 4000000 in
theorem body_calls (k : UInt8) (x n : Nat) (A : Option Addr) (m c : Nat) (rest : List UInt8) (w : World) (h : RB w A m c rest) (hm : m ≤ 4085) (hx : x < 256 ^ 4) (hn : n < 256 ^ 2) :
    Calls Tryz.prog 90 #[.int .i64 (k.toNat : Int), .int .i64 (x : Int), .int .i64 (n : Int), .slice A m c] w fun e w' => ∃ g c', e = .returned (.slice (some ⟨g, 0, none⟩) 4092 c') ∧ w.heap.size ≤ g ∧ OB w' g 4092 c' (hd k x n ++ (rest ++ zer (4085 - m))) ∧ Below w.heap.size w w' := by
  have hk := u8_kind k
  have kl : (k.toNat : Int) < 256 := by have := k.toNat_lt; omega
  have HL := hideIt h.len
  have x9 : x < 9223372036854775808 := Nat.lt_of_lt_of_le hx (by decide)
  have n9 : n < 9223372036854775808 := Nat.lt_of_lt_of_le hn (by decide)
  have N1 := fun W => number_calls x 4 W (by decide) x9
  have N2 := fun W => number_calls n 2 W (by decide) n9
  clear hx hn x9 n9
  go_enter Tryz.func90, Tryz.ntmps90
  go_upto_region 2 with fail
  have ba := below1 w (.cells #[.int .u8 (k.toNat : Int)] 5)
  have o0 : OB (w.alloc (.cells #[.int .u8 (k.toNat : Int)] 5)) w.heap.size 1 1 [k] := RB.lit w [k] 1 rfl (by rw [maxLen_is]; omega)
  have h0 := h.below ba
  generalize w.alloc (.cells #[.int .u8 (k.toNat : Int)] 5) = w0 at *
  go_upto_region 3 with (first
    | (with_reducible refine wpB_app rfl (.tmp 13) (.tmp 15) rfl _ _ _ _ rfl o1 _ _ _ _ rfl q1.read 5 rfl (by decide) ?_; intro g2 c2 w2 p2 _ o2 k2)
    | (go_at_call 92; refine (N1 _).mono ?_; rintro en w1 ⟨A1, c1, rfl, q1, b1⟩; have o1 := o0.below b1; have h1 := h0.below b1; have bb1 := blw_step ba b1))
  have sg : w.heap.size ≤ w0.heap.size := ba.size
  have g2l : w.heap.size ≤ g2 := by have := b1.size; omega
  have h2 : RB w2 A m c rest := h.below (blw_own bb1 k2 bb1.size (Nat.le_refl _))
  have b2 := blw_own bb1 k2 bb1.size (Nat.le_refl _)
  clear p2 k2 o1 h1 bb1 b1 q1 o0 h0 ba sg
  go_upto_region 4 with (first
    | (with_reducible refine wpB_app rfl (.tmp 17) (.tmp 19) rfl _ _ _ _ rfl o3 _ _ _ _ rfl q3.read 7 rfl (by decide) ?_; intro g4 c4 w4 p4 _ o4 k4)
    | (go_at_call 92; refine (N2 _).mono ?_; rintro en w3 ⟨A3, c3, rfl, q3, b3⟩; have o3 := o2.below b3; have h3 := h2.below b3; have bb3 := blw_step b2 b3))
  have g4l : w.heap.size ≤ g4 := by have := b3.size; have := b2.size; omega
  have b4 := blw_own bb3 k4 bb3.size g2l
  have h4 : RB w4 A m c rest := h.below b4
  clear p4 k4 o3 h3 bb3 b3 q3 o2 h2 b2
  have hl : 7 + m = 7 + m := rfl
  go_upto_region 5 with (with_reducible refine wpB_app rfl (.tmp 21) (.tmp 22) rfl _ _ _ _ rfl o4 _ _ _ _ rfl h4 (7 + m) hl (by omega) ?_; intro g5 c5 w5 p5 _ o5 k5)
  have g5l : w.heap.size ≤ g5 := by have := b4.size; omega
  have b5 := blw_own b4 k5 b4.size g4l
  obtain ⟨P, hP⟩ : ∃ P, ([k] ++ leB x 4) ++ leB n 2 ++ rest = P := ⟨_, rfl⟩
  rw [hP] at o5
  have hP2 : hd k x n ++ (rest ++ zer (4085 - m)) = P ++ zer (4092 - (7 + m)) := by
    rw [← hP]
    unfold hd
    rw [show 4092 - (7 + m) = 4085 - m by omega]
    simp only [List.append_assoc, List.cons_append, List.nil_append]
  have PL := hideIt (show P.length = 7 + m from o5.len)
  have HP2 := hideIt hP2
  clear hP hP2 p5 k5 o4 h4 b4 hl
  go_wp2
  go_loopw [9] (fun bb wr => ∃ (L g c' : Nat), 7 + m ≤ L ∧ L ≤ 4092 ∧ bb = .slice (some ⟨g, 0, none⟩) L c' ∧ w.heap.size ≤ g ∧ OB wr g L c' (P ++ zer (L - P.length)) ∧ Below w.heap.size w wr)
    (fun bb _ => 4092 - lenOfS bb)
  case atStart => exact ⟨7 + m, g5, c5, Nat.le_refl _, by omega, rfl, g5l, by rw [PL.out, Nat.sub_self]; simpa [zer] using o5, b5⟩
  case round =>
    obtain ⟨L, g, c', hL1, hL2, rfl, gl, og, bw⟩ := hrel
    by_cases hlt : L < 4092
    · have i1 : (L : Int) < 4092 := by omega
      have b1 := below1 wr (.cells #[.int .u8 0] 5)
      have o2 := og.below b1
      have q2 : RB (wr.alloc (.cells #[.int .u8 0] 5)) (some ⟨wr.heap.size, 0, none⟩) 1 1 [0] := u8_one wr 0
      have b2 := blw_step bw b1
      go_wp2_with (with_reducible refine wpB_app rfl (.tmp 27) (.tmp 28) rfl _ _ _ _ rfl o2 _ _ _ _ rfl q2 (L + 1) rfl (by omega) ?_; intro g4 c4 w4 p4 _ o4 k4)
      rw [zer_snoc P L (by rw [PL.out]; exact hL1)] at o4
      have g4l : w.heap.size ≤ g4 := by have := b2.size; omega
      have b4 := blw_own b2 k4 b2.size gl
      go_roundw
      case rel => exact ⟨L + 1, g4, c4, by omega, by omega, rfl, g4l, o4, b4⟩
      case measure => simp [lenOfS]; omega
    · obtain rfl : L = 4092 := by omega
      rw [PL.out, ← HP2.out] at og
      go_wp2
      go_ret
      exact ⟨g, c', rfl, gl, og, bw⟩

set_option maxRecDepth 100000 in
set_option maxHeartbeats 4000000 in
theorem refEncodeData_calls (x : Int) (A : Option Addr) (n c : Nat) (d : List UInt8) (w : World) (h : RB w A n c d) :
    Calls Tryz.prog 36 #[.int .i64 x, .slice A n c] w (Enc w (encDS x d)) := by
  have HL := hideIt h.len
  by_cases h1 : isNextB x = true
  · have IN := fun W => kid_calls x W
    rw [h1] at IN
    by_cases h2 : isDataB x n = true
    · obtain ⟨ex, lx⟩ := isNext_toNat h1
      obtain ⟨n1, n2, n3⟩ := isData_iff h2
      have hE : encDS x d = (encD x.toNat d, 0) := by unfold encDS; rw [if_pos h1, HL.out, if_pos h2]
      rw [hE]
      generalize x.toNat = X at ex lx hE
      subst ex
      have LN := hideIt (show n < 256 ^ 2 from Nat.lt_of_le_of_lt n2 (by decide))
      have BD := fun W q => body_calls 3 X n A n c d W q n2 lx LN.out
      have HD : Hid (hd 3 X n ++ (d ++ zer (4085 - n)) = encD X d) := hideIt (by unfold encD; rw [HL.out])
      have i1 : decide ((n : Int) < 1) = false := decide_eq_false (by omega)
      have i2 : decide (4085 < (n : Int)) = false := decide_eq_false (by omega)
      clear h1 h2 hE lx
      by_cases hx0 : X = 0
      · subst hx0
        go_enter Tryz.func36, Tryz.ntmps36
        go_wp2_with (first
          | (go_at_call 90; refine (BD _ h).mono ?_; rintro en w1 ⟨g, c1, rfl, s1, o1, b1⟩)
          | (go_at_call 89; refine (IN _).mono ?_; rintro en wx ⟨rfl, rfl⟩))
        rw [HD.out] at o1
        go_ret2
        exact ⟨_, _, _, rfl, GB.of o1 s1, b1⟩
      · have i4 : ((n : Int) != 4085) = false := by rw [bne_eq_false_iff_eq]; omega
        have i3 : ((X : Int) != 0) = true := by rw [bne_iff_ne]; omega
        clear hx0 n3
        go_enter Tryz.func36, Tryz.ntmps36
        go_wp2_with (first
          | (go_at_call 90; refine (BD _ h).mono ?_; rintro en w1 ⟨g, c1, rfl, s1, o1, b1⟩)
          | (go_at_call 89; refine (IN _).mono ?_; rintro en wx ⟨rfl, rfl⟩))
        rw [HD.out] at o1
        go_ret2
        exact ⟨_, _, _, rfl, GB.of o1 s1, b1⟩
    · have hE : encDS x d = ([], 62) := by unfold encDS; rw [if_pos h1, HL.out, if_neg h2]
      rw [hE]
      have hcs : n < 1 ∨ 4085 < n ∨ (1 ≤ n ∧ n ≤ 4085 ∧ x ≠ 0 ∧ n ≠ 4085) := by
        have : ¬ (1 ≤ n ∧ n ≤ 4085 ∧ (x = 0 ∨ n = 4085)) := fun q => h2 (decide_eq_true q)
        omega
      clear h1 h2 hE
      rcases hcs with hc | hc | ⟨c1, c2, c3, c4⟩
      · have i1 : decide ((n : Int) < 1) = true := decide_eq_true (by omega)
        go_enter Tryz.func36, Tryz.ntmps36
        go_wp2_with (go_at_call 89; refine (IN _).mono ?_; rintro en wx ⟨rfl, rfl⟩)
        go_ret2
        exact ⟨_, _, _, rfl, GB.none_ _ _, Below.refl _ _⟩
      · have i1 : decide ((n : Int) < 1) = false := decide_eq_false (by omega)
        have i2 : decide (4085 < (n : Int)) = true := decide_eq_true (by omega)
        go_enter Tryz.func36, Tryz.ntmps36
        go_wp2_with (go_at_call 89; refine (IN _).mono ?_; rintro en wx ⟨rfl, rfl⟩)
        go_ret2
        exact ⟨_, _, _, rfl, GB.none_ _ _, Below.refl _ _⟩
      · have i1 : decide ((n : Int) < 1) = false := decide_eq_false (by omega)
        have i2 : decide (4085 < (n : Int)) = false := decide_eq_false (by omega)
        have i3 : (x != 0) = true := by rw [bne_iff_ne]; exact c3
        have i4 : ((n : Int) != 4085) = true := by rw [bne_iff_ne]; omega
        clear c3 c4
        go_enter Tryz.func36, Tryz.ntmps36
        go_wp2_with (go_at_call 89; refine (IN _).mono ?_; rintro en wx ⟨rfl, rfl⟩)
        go_ret2
        exact ⟨_, _, _, rfl, GB.none_ _ _, Below.refl _ _⟩
  · have h1' : isNextB x = false := by simpa using h1
    have IN := fun W => kid_calls x W
    rw [h1'] at IN
    have hE : encDS x d = ([], 51) := by unfold encDS; rw [if_neg h1]
    rw [hE]
    clear h1 h1' hE
    go_enter Tryz.func36, Tryz.ntmps36
    go_wp2_with (go_at_call 89; refine (IN _).mono ?_; rintro en wx ⟨rfl, rfl⟩)
    go_ret2
    exact ⟨_, _, _, rfl, GB.none_ _ _, Below.refl _ _⟩
end Go.Proofs.YtmeakhiiebeneaaGreatDoor
