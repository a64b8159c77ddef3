/- coppicelaw4.LeafBack. -/
import Derived.Test.YtenalocpmigppaaFr
namespace Go.Proofs.Ytenalocpmigppaa
open Go.RowKit

set_option maxRecDepth 100000 in
set_option maxHeartbeats 4000000 in
theorem LeafBack_walk (A : Option Addr) (n c : Nat) (vs : List Value) (l : List It) (B : Option Addr) (m d : Nat) (body : List UInt8) (w : World) (h : RT w A n c vs l) (hb : RB w B m d body) (_y : m ≤ 140737488351232) :
    Calls Try.prog 6 #[.slice A n c, .slice B m d] w fun e w' => e = .returned (.bool true) ∧ Below w.heap.size w w' := by
  have F1 := fun W q => short_calls A n c vs l W q
  obtain ⟨f, hf⟩ : ∃ f, shortT l = f := ⟨_, rfl⟩
  rw [hf] at F1
  have HF := hideIt hf
  clear hf
  go_enter Try.func6, Try.ntmps6
  go_upto_region 2 with (go_at_call 11; refine (first_calls _).mono ?_; rintro en w1 ⟨rfl, b1⟩)
  have h1 := h.below b1
  have p1 := hb.below b1
  clear h hb
  cases f
  · go_wp2_with (go_at_call 12; refine (F1 _ h1).mono ?_; rintro en wx ⟨rfl, rfl⟩)
    go_ret
    exact ⟨rfl, b1⟩
  have s1 := (short_of HF.out).1
  rw [h1.len] at s1
  by_cases hm : m ≤ 65536
  · have t1 : decide ((65536 : Int) < (m : Int)) = false := decide_eq_false (by omega)
    go_upto_region 4 with (go_at_call 12; refine (F1 _ h1).mono ?_; rintro en wx ⟨rfl, rfl⟩)
    clear F1 HF t1 hm
    by_cases hw : errT l = 0
    · have EN := Encode_ok _ _ _ _ _ _ h1 hw
      have dq := decT_body hw
      clear hw
      go_upto_region 5 with (go_at_call 23; refine EN.mono ?_; rintro en w2 ⟨g2, rfl, s2, o2, x2⟩)
      have h2 := h1.below x2
      have p2 := p1.below x2
      have b2 := blw_step b1 x2
      clear EN h1 p1 b1 x2
      go_upto_region 7 with (first
        | (go_at_call 24; refine (num_calls _ _).mono ?_; rintro en wx ⟨rfl, rfl⟩)
        | (go_at_call 25; (with_reducible refine (Decode_calls _ _ _ _ _ o2.read).mono ?_); intro en w3 qd; obtain ⟨zs, A3, n3, c3, rfl, o3, hz, x3⟩ := qd.someT dq))
      have h3 := h2.below x3
      have p3 := p2.below x3
      have b3 := blw_step b2 x3
      have S := SameItems_calls _ _ _ _ _ _ _ _ _ _ _ o3.read h3 true (by simp [hz])
      clear qd dq h2 p2 b2 x3 o2 s2
      go_upto_region 10 with (first
        | (go_at_call 24; refine (num_calls _ _).mono ?_; rintro en wx ⟨rfl, rfl⟩)
        | (go_at_call 26; refine S.mono ?_; rintro en w4 ⟨rfl, x4⟩))
      have p0 := p3.below x4
      have b0 := blw_step b3 x4
      clear S h3 o3 hz x4 p3 b3
      have D := Decode_calls _ _ _ _ _ p0
      rcases hd : decT body with _ | m2
      · go_upto_region 11 with (go_at_call 25; (with_reducible refine D.mono ?_); intro en w5 qd; obtain ⟨A5, c5, ys, rfl, o5, hy, x5⟩ := qd.noneT hd)
        have b5 := blw_step b0 x5
        clear qd D o5 hy p0 b0 x5 hd
        go_wp2_with (go_at_call 24; refine (num_calls _ _).mono ?_; rintro en wx ⟨rfl, rfl⟩)
        go_ret
        exact ⟨rfl, b5⟩
      · go_upto_region 11 with (go_at_call 25; (with_reducible refine D.mono ?_); intro en w5 qd; obtain ⟨ys, A5, n5, c5, rfl, o5, hy, x5⟩ := qd.someT hd)
        have b5 := blw_step b0 x5
        have p5 := p0.below x5
        obtain ⟨q1, q2, -, -⟩ := decT_some hd
        rw [← hy] at q1 q2
        have EN := Encode_ok _ _ _ _ _ _ o5.read q1
        rw [q2] at EN
        clear qd D o5 hy p0 b0 x5 hd q1 q2
        go_upto_region 14 with (first
          | (go_at_call 24; refine (num_calls _ _).mono ?_; rintro en wx ⟨rfl, rfl⟩)
          | (go_at_call 23; (with_reducible refine EN.mono ?_); rintro en w6 ⟨g6, rfl, s6, o6, x6⟩))
        have p6 := p5.below x6
        have b6 := blw_step b5 x6
        clear EN p5 b5 x6
        go_wp2_with (first
          | (go_at_call 24; refine (num_calls _ _).mono ?_; rintro en wx ⟨rfl, rfl⟩)
          | (go_at_call 27; refine (SameBytes_calls _ _ _ _ _ _ _ _ _ o6.read p6 true (by simp)).mono ?_; rintro en wx ⟨rfl, rfl⟩))
        go_ret
        exact ⟨rfl, b6⟩
    · have EN := Encode_no _ _ _ _ _ _ h1 (by omega) hw
      generalize errT l = e1 at EN hw
      have t : (e1 == 0) = false := beq_eq_false_iff_ne.2 hw
      clear hw
      go_upto_region 10 with (first
        | (go_at_call 23; refine EN.mono ?_; rintro en w2 ⟨rfl, x2⟩)
        | (go_at_call 24; refine (num_calls _ _).mono ?_; rintro en wx ⟨rfl, rfl⟩))
      have p0 := p1.below x2
      have b0 := blw_step b1 x2
      clear EN h1 p1 b1 x2
      have D := Decode_calls _ _ _ _ _ p0
      rcases hd : decT body with _ | m2
      · go_upto_region 11 with (go_at_call 25; (with_reducible refine D.mono ?_); intro en w5 qd; obtain ⟨A5, c5, ys, rfl, o5, hy, x5⟩ := qd.noneT hd)
        have b5 := blw_step b0 x5
        clear qd D o5 hy p0 b0 x5 hd
        go_wp2_with (go_at_call 24; refine (num_calls _ _).mono ?_; rintro en wx ⟨rfl, rfl⟩)
        go_ret
        exact ⟨rfl, b5⟩
      · go_upto_region 11 with (go_at_call 25; (with_reducible refine D.mono ?_); intro en w5 qd; obtain ⟨ys, A5, n5, c5, rfl, o5, hy, x5⟩ := qd.someT hd)
        have b5 := blw_step b0 x5
        have p5 := p0.below x5
        obtain ⟨q1, q2, -, -⟩ := decT_some hd
        rw [← hy] at q1 q2
        have EN := Encode_ok _ _ _ _ _ _ o5.read q1
        rw [q2] at EN
        clear qd D o5 hy p0 b0 x5 hd q1 q2
        go_upto_region 14 with (first
          | (go_at_call 24; refine (num_calls _ _).mono ?_; rintro en wx ⟨rfl, rfl⟩)
          | (go_at_call 23; (with_reducible refine EN.mono ?_); rintro en w6 ⟨g6, rfl, s6, o6, x6⟩))
        have p6 := p5.below x6
        have b6 := blw_step b5 x6
        clear EN p5 b5 x6
        go_wp2_with (first
          | (go_at_call 24; refine (num_calls _ _).mono ?_; rintro en wx ⟨rfl, rfl⟩)
          | (go_at_call 27; refine (SameBytes_calls _ _ _ _ _ _ _ _ _ o6.read p6 true (by simp)).mono ?_; rintro en wx ⟨rfl, rfl⟩))
        go_ret
        exact ⟨rfl, b6⟩
  · have t1 : decide ((65536 : Int) < (m : Int)) = true := decide_eq_true (by omega)
    go_wp2_with (go_at_call 12; refine (F1 _ h1).mono ?_; rintro en wx ⟨rfl, rfl⟩)
    go_ret
    exact ⟨rfl, b1⟩
end Go.Proofs.Ytenalocpmigppaa
