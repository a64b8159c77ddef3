/- meta.may. -/
import Derived.Test.YtenalocpmigppaaGreatDoorMa
namespace Go.Proofs.YtenalocpmigppaaGreatDoor
open Go.RowKit

def numsB (v n : Int) : Bool := decide (1 ≤ v ∧ v ≤ 4611686018427387904 ∧ 2 ≤ n ∧ n ≤ 524287)
def treeB (r h k : Int) : Bool := decide (0 ≤ h ∧ h ≤ 16 ∧ 0 ≤ k ∧ k ≤ 4294967295 ∧ (h = 0 ↔ r = 0) ∧ (k = 0 ↔ r = 0))
def freeB (n f e : Int) : Bool := decide (0 ≤ e ∧ e ≤ wrap64 (n - 2) ∧ (e = 0 ↔ f = 0))
def mayB (v n r h k f e : Int) : Bool := numsB v n && (pageB r n && pageB f n) && treeB r h k && freeB n f e

theorem beq_iff2 (a b : Int) : ((a == 0) = (b == 0)) = (a = 0 ↔ b = 0) := by
  rw [Bool.eq_iff_iff, beq_iff_eq, beq_iff_eq]

set_option maxRecDepth 100000 in
set_option maxHeartbeats 4000000 in
theorem may_calls (v n r h k f e : Int) (w : World) (hn : -9223372036854775808 ≤ n ∧ n ≤ 9223372036854775807) :
    Calls Tryz.prog 67 #[.agg #[.int .i64 v, .int .i64 n, .int .i64 r, .int .i64 h, .int .i64 k, .int .i64 f, .int .i64 e]] w fun en w' => en = .returned (.bool (mayB v n r h k f e)) ∧ Below w.heap.size w w' := by
  go_enter Tryz.func67, Tryz.ntmps67
  go_upto_region 1 with fail
  go_cut [3] from 7 to 24 (fun sv wx => sv = .bool (numsB v n) ∧ wx = w.alloc (.cells #[.int .i64 v, .int .i64 n, .int .i64 r, .int .i64 h, .int .i64 k, .int .i64 f, .int .i64 e] 66))
  case first =>
    go_wp2_with fail
    all_goals go_meet
    all_goals exact ⟨congrArg Value.bool (by unfold numsB; rw [Bool.eq_iff_iff]; simp; omega), rfl⟩
  case rest =>
  obtain ⟨rfl, rfl⟩ := hcut
  go_upto_region 2 with fail
  go_cut [4] from 25 to 36 (fun sv wx => sv = .bool (pageB r n && pageB f n) ∧ wx = w.alloc (.cells #[.int .i64 v, .int .i64 n, .int .i64 r, .int .i64 h, .int .i64 k, .int .i64 f, .int .i64 e] 66))
  case first =>
    go_wp2_with (go_at_call 135; refine (page_calls _ _ _).mono ?_; rintro en w2 ⟨rfl, rfl⟩)
    all_goals go_meet
    all_goals exact ⟨congrArg Value.bool (by simp [*]), rfl⟩
  case rest =>
  obtain ⟨rfl, rfl⟩ := hcut
  go_upto_region 3 with fail
  go_cut [5] from 37 to 72 (fun sv wx => sv = .bool (treeB r h k) ∧ wx = w.alloc (.cells #[.int .i64 v, .int .i64 n, .int .i64 r, .int .i64 h, .int .i64 k, .int .i64 f, .int .i64 e] 66))
  case first =>
    go_wp2_with fail
    all_goals go_meet
    all_goals exact ⟨congrArg Value.bool (by unfold treeB; rw [Bool.eq_iff_iff]; (try simp only [beq_iff2] at *); simp [beq_iff2]; omega), rfl⟩
  case rest =>
  obtain ⟨rfl, rfl⟩ := hcut
  go_upto_region 4 with fail
  go_cut [6] from 73 to 92 (fun sv wx => sv = .bool (freeB n f e) ∧ wx = w.alloc (.cells #[.int .i64 v, .int .i64 n, .int .i64 r, .int .i64 h, .int .i64 k, .int .i64 f, .int .i64 e] 66))
  case first =>
    go_wp2_with fail
    all_goals go_meet
    all_goals exact ⟨congrArg Value.bool (by unfold freeB; rw [Bool.eq_iff_iff]; (try simp only [beq_iff2] at *); simp [beq_iff2]; omega), rfl⟩
  case rest =>
  obtain ⟨rfl, rfl⟩ := hcut
  obtain ⟨b1, h1⟩ : ∃ b, numsB v n = b := ⟨_, rfl⟩
  obtain ⟨b2, h2⟩ : ∃ b, (pageB r n && pageB f n) = b := ⟨_, rfl⟩
  obtain ⟨b3, h3⟩ : ∃ b, treeB r h k = b := ⟨_, rfl⟩
  obtain ⟨b4, h4⟩ : ∃ b, freeB n f e = b := ⟨_, rfl⟩
  rw [h1, h2, h3, h4]
  have law : mayB v n r h k f e = (b1 && b2 && b3 && b4) := by unfold mayB; rw [h1, h2, h3, h4]
  have LAW := hideIt law
  clear law h1 h2 h3 h4
  cases b1 <;> cases b2 <;> cases b3 <;> cases b4
  all_goals go_wp2
  all_goals go_ret
  all_goals exact ⟨by rw [LAW.out]; rfl, (Below.refl _ _).alloc (Nat.le_refl _) _⟩
end Go.Proofs.YtenalocpmigppaaGreatDoor
