/- coppiceref7.May answers as meta.may. -/
import Derived.Test.YtgajlippppebpaaDoorMb
namespace Go.Proofs.YtgajlippppebpaaDoor
open Go.RowKit

theorem wrap_less2 (v n : Int) (h : numsB v n = true) : wrap64 (n - 2) = n - 2 := by
  unfold numsB at h
  rw [decide_eq_true_eq] at h
  unfold wrap64
  omega
theorem numsB_out {v n : Int} (h : numsB v n = true) : 1 ≤ v ∧ v ≤ 4611686018427387904 ∧ 2 ≤ n ∧ n ≤ 524287 := by
  unfold numsB at h; rwa [decide_eq_true_eq] at h
def rootB (n r h k : Int) : Bool := decide (2 ≤ r ∧ r < n ∧ 1 ≤ h ∧ h ≤ 16 ∧ 1 ≤ k ∧ k ≤ 4294967295)
set_option maxRecDepth 100000 in
set_option maxHeartbeats 4000000 in
theorem refMay_calls (v n r h k f e : Int) (w : World) :
    Calls Tryd.prog 21 #[.agg #[.int .i64 v, .int .i64 n, .int .i64 r, .int .i64 h, .int .i64 k, .int .i64 f, .int .i64 e]] w fun en w' => en = .returned (.bool (mayB v n r h k f e)) ∧ Below w.heap.size w w' := by
  go_enter Tryd.func21, Tryd.ntmps21
  go_upto_region 1 with fail
  go_cut [21] from 4 to 21 (fun sv wx => sv = .bool (!numsB v n) ∧ wx = w.alloc (.cells #[.int .i64 v, .int .i64 n, .int .i64 r, .int .i64 h, .int .i64 k, .int .i64 f, .int .i64 e] 23))
  case first =>
    go_wp2_with fail
    all_goals go_meet
    all_goals exact ⟨congrArg Value.bool (by unfold numsB; rw [Bool.eq_iff_iff]; (first | (simp; done) | (simp; omega))), rfl⟩
  case rest =>
  obtain ⟨rfl, rfl⟩ := hcut
  generalize hq : (!numsB v n) = q
  cases q with
  | true =>
    have hN : numsB v n = false := by simpa using hq
    clear hq
    have law : mayB v n r h k f e = false := by unfold mayB; rw [hN]; rfl
    have LAW := hideIt law
    clear law hN
    go_wp2
    go_ret
    exact ⟨by rw [LAW.out]; rfl, (Below.refl _ _).alloc (Nat.le_refl _) _⟩
  | false =>
    have hN : numsB v n = true := by simpa using hq
    clear hq
    have hw := wrap_less2 v n hN
    have HW := hideIt hw
    have hN' := numsB_out hN
    by_cases hr : r = 0
    · subst hr
      by_cases hh : h = 0
      · subst hh
        by_cases hkk : k = 0
        · subst hkk
          by_cases hf : f = 0
          · have law : mayB v n 0 0 0 f e = (true && (e == 0)) := by
              unfold mayB; rw [hN]; unfold pageB treeB freeB; rw [hw, Bool.eq_iff_iff]; (first | (simp [hf]; done) | (simp [hf]; omega))
            have LAW := hideIt law
            clear law hN hw
            subst hf
            go_wp2
            go_ret
            exact ⟨by rw [LAW.out]; rfl, (Below.refl _ _).alloc (Nat.le_refl _) _⟩
          · have law : mayB v n 0 0 0 f e = (true && decide (2 ≤ f ∧ f < n ∧ 1 ≤ e ∧ e ≤ wrap64 (n - 2))) := by
              unfold mayB; rw [hN]; unfold pageB treeB freeB; rw [hw, Bool.eq_iff_iff]; (first | (simp; done) | (simp; omega))
            have LAW := hideIt law
            clear law hN hw
            have hf' : (f == 0) = false := beq_eq_false_iff_ne.2 hf
            go_wp2
            all_goals go_ret
            all_goals refine ⟨ret_bool ?_, (Below.refl _ _).alloc (Nat.le_refl _) _⟩
            all_goals have q := HW.out
            all_goals rw [LAW.out, Bool.eq_iff_iff]; (first | (simp; done) | (simp; omega))
        · have hk' : (k == 0) = false := beq_eq_false_iff_ne.2 hkk
          by_cases hf : f = 0
          · have law : mayB v n 0 0 k f e = (false && (e == 0)) := by
              unfold mayB; rw [hN]; unfold pageB treeB freeB; rw [hw, Bool.eq_iff_iff]; (first | (simp [hf]; done) | (simp [hf]; omega))
            have LAW := hideIt law
            clear law hN hw
            subst hf
            go_wp2
            go_ret
            exact ⟨by rw [LAW.out]; rfl, (Below.refl _ _).alloc (Nat.le_refl _) _⟩
          · have law : mayB v n 0 0 k f e = (false && decide (2 ≤ f ∧ f < n ∧ 1 ≤ e ∧ e ≤ wrap64 (n - 2))) := by
              unfold mayB; rw [hN]; unfold pageB treeB freeB; rw [hw, Bool.eq_iff_iff]; (first | (simp; done) | (simp; omega))
            have LAW := hideIt law
            clear law hN hw
            have hf' : (f == 0) = false := beq_eq_false_iff_ne.2 hf
            go_wp2
            all_goals go_ret
            all_goals refine ⟨ret_bool ?_, (Below.refl _ _).alloc (Nat.le_refl _) _⟩
            all_goals have q := HW.out
            all_goals rw [LAW.out, Bool.eq_iff_iff]; (first | (simp; done) | (simp; omega))
      · have hh' : (h == 0) = false := beq_eq_false_iff_ne.2 hh
        by_cases hf : f = 0
        · have law : mayB v n 0 h k f e = (false && (e == 0)) := by
            unfold mayB; rw [hN]; unfold pageB treeB freeB; rw [hw, Bool.eq_iff_iff]; (first | (simp [hf]; done) | (simp [hf]; omega))
          have LAW := hideIt law
          clear law hN hw
          subst hf
          go_wp2
          go_ret
          exact ⟨by rw [LAW.out]; rfl, (Below.refl _ _).alloc (Nat.le_refl _) _⟩
        · have law : mayB v n 0 h k f e = (false && decide (2 ≤ f ∧ f < n ∧ 1 ≤ e ∧ e ≤ wrap64 (n - 2))) := by
            unfold mayB; rw [hN]; unfold pageB treeB freeB; rw [hw, Bool.eq_iff_iff]; (first | (simp; done) | (simp; omega))
          have LAW := hideIt law
          clear law hN hw
          have hf' : (f == 0) = false := beq_eq_false_iff_ne.2 hf
          go_wp2
          all_goals go_ret
          all_goals refine ⟨ret_bool ?_, (Below.refl _ _).alloc (Nat.le_refl _) _⟩
          all_goals have q := HW.out
          all_goals rw [LAW.out, Bool.eq_iff_iff]; (first | (simp; done) | (simp; omega))
    · have hr' : (r == 0) = false := beq_eq_false_iff_ne.2 hr
      have hr2 : (r != 0) = true := bne_iff_ne.2 hr
      go_upto_region 5 with fail
      go_cut [3] from 37 to 67 (fun sv wx => sv = .bool (rootB n r h k) ∧ wx = w.alloc (.cells #[.int .i64 v, .int .i64 n, .int .i64 r, .int .i64 h, .int .i64 k, .int .i64 f, .int .i64 e] 23))
      case first =>
        go_wp2_with fail
        all_goals go_meet
        all_goals exact ⟨congrArg Value.bool (by unfold rootB; rw [Bool.eq_iff_iff]; (first | (simp; done) | (simp; omega))), rfl⟩
      case rest =>
      obtain ⟨rfl, rfl⟩ := hcut
      generalize hb : rootB n r h k = b
      by_cases hf : f = 0
      · have law : mayB v n r h k f e = (b && (e == 0)) := by
          rw [← hb]; unfold mayB; rw [hN]; unfold pageB treeB freeB rootB; rw [hw, Bool.eq_iff_iff]; (first | (simp; done) | (simp; omega))
        have LAW := hideIt law
        clear law hb hN hw
        subst hf
        cases b
        all_goals go_wp2
        all_goals go_ret
        all_goals exact ⟨by rw [LAW.out]; rfl, (Below.refl _ _).alloc (Nat.le_refl _) _⟩
      · have law : mayB v n r h k f e = (b && decide (2 ≤ f ∧ f < n ∧ 1 ≤ e ∧ e ≤ wrap64 (n - 2))) := by
          rw [← hb]; unfold mayB; rw [hN]; unfold pageB treeB freeB rootB; rw [hw, Bool.eq_iff_iff]; (first | (simp; done) | (simp; omega))
        have LAW := hideIt law
        clear law hb hN hw
        have hf' : (f == 0) = false := beq_eq_false_iff_ne.2 hf
        cases b
        · go_wp2
          go_ret
          exact ⟨by rw [LAW.out]; rfl, (Below.refl _ _).alloc (Nat.le_refl _) _⟩
        · go_wp2
          all_goals go_ret
          all_goals refine ⟨ret_bool ?_, (Below.refl _ _).alloc (Nat.le_refl _) _⟩
          all_goals have q := HW.out
          all_goals rw [LAW.out, Bool.eq_iff_iff]; (first | (simp; done) | (simp; omega))

end Go.Proofs.YtgajlippppebpaaDoor
