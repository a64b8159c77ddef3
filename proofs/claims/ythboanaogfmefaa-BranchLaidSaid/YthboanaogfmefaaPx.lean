/- coppicelaw5.may. -/
import Derived.Test.YthboanaogfmefaaPv
import Derived.Test.YthboanaogfmefaaPm
namespace Go.Proofs.Ythboanaogfmefaa
open Go.RowKit

theorem may_wr (r1 r2 r3 r4 : Bool) : decide (WR r1 r2 r3 r4 = 0) = (r1 && ((r2 && r3) && !r4)) := by
  cases r1 <;> cases r2 <;> cases r3 <;> cases r4 <;> rfl
set_option maxRecDepth 100000 in
set_option maxHeartbeats 8000000 in
theorem may_calls (level : Int) (A : Option Addr) (n c : Nat) (vs : List Value) (l : List (List UInt8)) (B : Option Addr) (m d : Nat) (ks : List (Int × Int)) (w : World) (h : RM w A n c vs l) (hf : Few n l) (hk : RK w B m d ks) :
    Calls Try.prog 28 #[.int .i64 level, .slice A n c, .slice B m d] w fun e w' => e = .returned (.bool (decide (wrongS level l ks = 0))) ∧ Below w.heap.size w w' := by
  have HL := hideIt h.len
  have HK := hideIt hk.len
  have n7 := hf.n
  have mk := hk.max
  by_cases hsh : shape level l.length ks.length = true
  · have hwr := wrong_wr hsh
    have q := shape_iff.1 hsh
    rw [HL.out, HK.out] at q
    obtain ⟨q1, q2, q3, q4⟩ := q
    obtain ⟨r1, hr1⟩ : ∃ r, ks.all kidOk = r := ⟨_, rfl⟩
    obtain ⟨r, hr⟩ : ∃ r, (l.all sepOk && sorted l) = r := ⟨_, rfl⟩
    have S := fun W q => Size_calls A n c vs l W q hf
    generalize sizeS l = Z at S hwr
    obtain ⟨r4, hr4⟩ : ∃ r, decide (4092 < Z) = r := ⟨_, rfl⟩
    rw [hwr, may_wr, hr1, hr, hr4]
    have H1 : Hid ((ks.drop 0).all kidOk = r1) := hideIt hr1
    have H2 : Hid (((l.drop 0).all sepOk && sorted (l.drop (0 - 1))) = r) := hideIt hr
    have H4 := hideIt hr4
    have i1 : decide (level < 1) = false := decide_eq_false (by omega)
    have i2 : decide (15 < level) = false := decide_eq_false (by omega)
    have i3 : decide ((m : Int) < 1) = false := decide_eq_false (by omega)
    have i4 : ((m : Int) != (n : Int) + 1) = false := by rw [bne_eq_false_iff_eq]; omega
    clear hr1 hr hr4 hsh q1 q2 q3 q4 hwr
    go_enter Try.func28, Try.ntmps28
    go_wp2
    go_loopw [7] (fun ii wr => ∃ i, i ≤ m ∧ ii = .int .i64 (i : Int) ∧ Hid ((ks.drop i).all kidOk = r1) ∧ Below w.heap.size w wr)
      (fun ii _ => m - (intOf ii).toNat)
    case atStart => exact ⟨0, by omega, rfl, H1, Below.refl _ _⟩
    case round =>
      clear H1
      obtain ⟨i, hi, rfl, H1, bw⟩ := hrel
      by_cases hlt : i < m
      · obtain ⟨ad, x, y, rfl, hx, c1, c2⟩ := (hk.below bw).at_ i hlt
        have st := all_step (f := kidOk) hx
        rw [H1.out] at st
        have j1 : (i : Int) < (m : Int) := by omega
        by_cases k1 : x < 2
        · rw [show kidOk (x, y) = false from decide_eq_false (fun q => by have := q.1; simp only at this; omega), Bool.false_and] at st
          subst st
          have t1 : decide (x < 2) = true := decide_eq_true k1
          clear k1 hx
          go_wp2
          go_ret
          exact ⟨rfl, bw⟩
        have t1 : decide (x < 2) = false := decide_eq_false k1
        by_cases k2 : 524286 < x
        · rw [show kidOk (x, y) = false from decide_eq_false (fun q => by have := q.2.1; simp only at this; omega), Bool.false_and] at st
          subst st
          have t2 : decide (524286 < x) = true := decide_eq_true k2
          clear k1 k2 hx
          go_wp2
          go_ret
          exact ⟨rfl, bw⟩
        have t2 : decide (524286 < x) = false := decide_eq_false k2
        by_cases k3 : y < 1
        · rw [show kidOk (x, y) = false from decide_eq_false (fun q => by have := q.2.2.1; simp only at this; omega), Bool.false_and] at st
          subst st
          have t3 : decide (y < 1) = true := decide_eq_true k3
          clear k1 k2 k3 hx
          go_wp2
          go_ret
          exact ⟨rfl, bw⟩
        have t3 : decide (y < 1) = false := decide_eq_false k3
        by_cases k4 : 4294967295 < y
        · rw [show kidOk (x, y) = false from decide_eq_false (fun q => by have := q.2.2.2; simp only at this; omega), Bool.false_and] at st
          subst st
          have t4 : decide (4294967295 < y) = true := decide_eq_true k4
          clear k1 k2 k3 k4 hx
          go_wp2
          go_ret
          exact ⟨rfl, bw⟩
        have t4 : decide (4294967295 < y) = false := decide_eq_false k4
        rw [show kidOk (x, y) = true from decide_eq_true ⟨by simp only; omega, by simp only; omega, by simp only; omega, by simp only; omega⟩, Bool.true_and] at st
        have ST := hideIt st.symm
        clear k1 k2 k3 k4 hx st
        go_wp2
        go_roundw
        case rel => exact ⟨i + 1, by omega, by go_num, ST, bw⟩
        case measure => simp [intOf]; omega
      · obtain rfl : m = i := by omega
        rw [all_end (by rw [HK.out]; exact Nat.le_refl _)] at H1
        obtain rfl := H1.out
        clear H1
        go_wp2
        go_loopw [8] (fun ii wr => ∃ i, i ≤ n ∧ ii = .int .i64 (i : Int) ∧ Hid (((l.drop i).all sepOk && sorted (l.drop (i - 1))) = r) ∧ Below w.heap.size w wr)
          (fun ii _ => n - (intOf ii).toNat)
        case atStart => exact ⟨0, by omega, rfl, H2, bw⟩
        case round =>
          clear H2 bw
          obtain ⟨i, hi, rfl, H2, bw⟩ := hrel
          by_cases hlt : i < n
          · obtain ⟨ad, Ai, ni, ci, s, rfl, hs, cell, rs⟩ := (h.below bw).row i hlt
            have st := all_step (f := sepOk) hs
            have hso : sepOk s = decide (1 ≤ ni ∧ ni ≤ 255) := by unfold sepOk; rw [rs.len]
            have j1 : (i : Int) < (n : Int) := by omega
            by_cases k1 : ni < 1
            · rw [st, hso, decide_eq_false (by omega), Bool.false_and, Bool.false_and] at H2
              obtain rfl := H2.out
              have t1 : decide ((ni : Int) < 1) = true := decide_eq_true (by omega)
              clear hs hso st k1 H2
              go_wp2
              go_quiet (fail)
              go_wp2
              go_ret
              exact ⟨rfl, below_drewN bw _⟩
            have t1 : decide ((ni : Int) < 1) = false := decide_eq_false (by omega)
            by_cases k2 : 255 < ni
            · rw [st, hso, decide_eq_false (by omega), Bool.false_and, Bool.false_and] at H2
              obtain rfl := H2.out
              have t2 : decide ((255 : Int) < (ni : Int)) = true := decide_eq_true (by omega)
              clear hs hso st k1 k2 H2
              go_wp2
              go_quiet (fail)
              go_wp2
              go_ret
              exact ⟨rfl, below_drewN bw _⟩
            have t2 : decide ((255 : Int) < (ni : Int)) = false := decide_eq_false (by omega)
            rw [st, hso, decide_eq_true (by omega), Bool.true_and] at H2
            rcases Nat.eq_zero_or_pos i with h0 | h0
            · have H3 : Hid (((l.drop (i + 1)).all sepOk && sorted (l.drop (i + 1 - 1))) = r) := by
                subst h0; exact H2
              have t3 : decide ((0 : Int) < (i : Int)) = false := decide_eq_false (by omega)
              have t5 : decide (0 < i) = false := decide_eq_false (by omega)
              clear hs hso st k1 k2 H2 h0
              go_wp2
              go_quiet (fail)
              go_wp2
              go_roundw
              case rel => exact ⟨i + 1, by omega, by go_num, H3, below_drewN bw _⟩
              case measure => simp [intOf]; omega
            · obtain ⟨ad', A0, n0, c0, s0, e', hs0, cell0, rs0⟩ := (h.below bw).row (i - 1) (by omega)
              cases e'
              have so := sorted_step hs0 (show l[i - 1 + 1]? = some s by rw [Nat.sub_add_cancel h0]; exact hs)
              have t3 : decide ((0 : Int) < (i : Int)) = true := decide_eq_true (by omega)
              have t5 : decide (0 < i) = true := decide_eq_true h0
              have f1 : ((i : Int) - 1).toNat = i - 1 := by omega
              have f2 : (0 : Int) ≤ (i : Int) - 1 := by omega
              have f3 : (i : Int) - 1 < (n : Int) := by omega
              have CM := fun mm => Less_calls _ _ _ _ _ _ _ _ (wr.drewN mm) (drewB rs0 mm) (drewB rs mm)
              generalize Key.cmpB s0 s = z at CM so
              rw [so] at H2
              by_cases hz : z < 0
              · rw [decide_eq_true hz] at CM
                rw [decide_eq_true hz, Bool.true_and] at H2
                have H3 : Hid (((l.drop (i + 1)).all sepOk && sorted (l.drop (i + 1 - 1))) = r) := by
                  rw [show i + 1 - 1 = i - 1 + 1 by omega]; exact H2
                clear hs hs0 hso st so k1 k2 H2 hz
                go_wp2
                go_quiet (first | (go_at_call 45; exact Calls.quiet_of_same (CM _)))
                go_wp2
                go_roundw
                case rel => exact ⟨i + 1, by omega, by go_num, H3, below_drewN bw _⟩
                case measure => simp [intOf]; omega
              · rw [decide_eq_false hz] at CM
                rw [decide_eq_false hz, Bool.false_and, Bool.and_false] at H2
                obtain rfl := H2.out
                clear hs hs0 hso st so k1 k2 H2 hz
                go_wp2
                go_quiet (first | (go_at_call 45; exact Calls.quiet_of_same (CM _)))
                go_wp2
                go_ret
                exact ⟨rfl, below_drewN bw _⟩
          · obtain rfl : n = i := by omega
            rw [all_end (by rw [HL.out]; exact Nat.le_refl _), sorted_end (by rw [HL.out]; omega)] at H2
            obtain rfl := H2.out
            have hw := h.below bw
            clear H2
            by_cases hz : 4092 < Z
            · obtain rfl : r4 = true := by rw [← H4.out]; exact decide_eq_true hz
              have j2 : decide ((Z : Int) ≤ 4092) = false := decide_eq_false (by omega)
              clear hz
              go_wp2_with (go_at_call 15; refine (S _ hw).mono ?_; rintro en w2 ⟨rfl, b3⟩; have b4 := blw_step bw b3)
              go_ret
              exact ⟨ret_bool1 (by simp [*]), b4⟩
            · obtain rfl : r4 = false := by rw [← H4.out]; exact decide_eq_false hz
              have j2 : decide ((Z : Int) ≤ 4092) = true := decide_eq_true (by omega)
              clear hz
              go_wp2_with (go_at_call 15; refine (S _ hw).mono ?_; rintro en w2 ⟨rfl, b3⟩; have b4 := blw_step bw b3)
              go_ret
              exact ⟨ret_bool1 (by simp [*]), b4⟩
  · have fin : decide (wrongS level l ks = 0) = false := by rw [wrong_50 hsh]; rfl
    rw [fin]
    have hc : level < 1 ∨ 15 < level ∨ m < 1 ∨ m ≠ n + 1 := by
      have : ¬ (1 ≤ level ∧ level ≤ 15 ∧ m ≠ 0 ∧ m = n + 1) := fun q => hsh (shape_iff.2 (by rw [HL.out, HK.out]; exact q))
      omega
    clear hsh fin
    by_cases c1 : level < 1
    · have i1 : decide (level < 1) = true := decide_eq_true c1
      clear hc c1
      go_enter Try.func28, Try.ntmps28
      go_wp2
      go_ret
      exact ⟨rfl, Below.refl _ _⟩
    · have i1 : decide (level < 1) = false := decide_eq_false c1
      by_cases c2 : 15 < level
      · have i2 : decide (15 < level) = true := decide_eq_true c2
        clear hc c1 c2
        go_enter Try.func28, Try.ntmps28
        go_wp2
        go_ret
        exact ⟨rfl, Below.refl _ _⟩
      · have i2 : decide (15 < level) = false := decide_eq_false c2
        by_cases c3 : m < 1
        · have i3 : decide ((m : Int) < 1) = true := decide_eq_true (by omega)
          clear hc c1 c2 c3
          go_enter Try.func28, Try.ntmps28
          go_wp2
          go_ret
          exact ⟨rfl, Below.refl _ _⟩
        · have i3 : decide ((m : Int) < 1) = false := decide_eq_false (by omega)
          have i4 : ((m : Int) != (n : Int) + 1) = true := by rw [bne_iff_ne]; omega
          clear hc c1 c2 c3
          go_enter Try.func28, Try.ntmps28
          go_wp2
          go_ret
          exact ⟨rfl, Below.refl _ _⟩
end Go.Proofs.Ythboanaogfmefaa
