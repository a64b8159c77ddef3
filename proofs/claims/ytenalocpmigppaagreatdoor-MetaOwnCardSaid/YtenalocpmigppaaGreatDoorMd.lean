/- SameHead at equal heads; Newer, both. -/
import Derived.Test.YtenalocpmigppaaGreatDoorMa
namespace Go.Proofs.YtenalocpmigppaaGreatDoor
open Go.RowKit

set_option maxRecDepth 100000 in
set_option maxHeartbeats 4000000 in
theorem SameHead_calls (v n r h k f e : Int) (w : World) :
    Calls Tryz.prog 36 #[.agg #[.int .i64 v, .int .i64 n, .int .i64 r, .int .i64 h, .int .i64 k, .int .i64 f, .int .i64 e], .agg #[.int .i64 v, .int .i64 n, .int .i64 r, .int .i64 h, .int .i64 k, .int .i64 f, .int .i64 e]] w fun en w' => en = .returned (.bool true) ∧ Below w.heap.size w w' := by
  go_enter Tryz.func36, Tryz.ntmps36
  go_wp2
  go_ret
  exact ⟨rfl, ((Below.refl _ _).alloc (Nat.le_refl _) _).alloc (by simp) _⟩
def newer (v v' : Int) (a b : Bool) : Int := if (a && (Int.tmod v 2 == 0)) && (!(b && !(Int.tmod v' 2 == 0)) || decide (v' < v)) then 0 else if b && !(Int.tmod v' 2 == 0) then 1 else -1

set_option maxRecDepth 100000 in
set_option maxHeartbeats 4000000 in
theorem Newer_calls (v n r h k f e v' n' r' h' k' f' e' : Int) (a b : Bool) (w : World) :
    Calls Tryz.prog 66 #[.agg #[.int .i64 v, .int .i64 n, .int .i64 r, .int .i64 h, .int .i64 k, .int .i64 f, .int .i64 e], .agg #[.int .i64 v', .int .i64 n', .int .i64 r', .int .i64 h', .int .i64 k', .int .i64 f', .int .i64 e'], .bool a, .bool b] w fun en w' => en = .returned (.int .i64 (newer v v' a b)) ∧ Below w.heap.size w w' := by
  obtain ⟨q, hq⟩ : ∃ q, newer v v' a b = q := ⟨_, rfl⟩
  rw [hq]
  unfold newer at hq
  have bb := ((Below.refl w.heap.size w).alloc (Nat.le_refl _) (.cells #[.int .i64 v, .int .i64 n, .int .i64 r, .int .i64 h, .int .i64 k, .int .i64 f, .int .i64 e] 66)).alloc (Nat.le_trans (Nat.le_succ _) (by simp)) (.cells #[.int .i64 v', .int .i64 n', .int .i64 r', .int .i64 h', .int .i64 k', .int .i64 f', .int .i64 e'] 66)
  cases hx : (Int.tmod v 2 == 0) <;> cases hy : (Int.tmod v' 2 == 0) <;> cases a <;> cases b <;> by_cases hg : v' < v
  all_goals
    rw [hx, hy] at hq
    simp [hg] at hq
    subst hq
    have hy2 : (Int.tmod v' 2 != 0) = !(Int.tmod v' 2 == 0) := rfl
    rw [hy] at hy2
    simp only [Bool.not_true, Bool.not_false] at hy2
    go_enter Tryz.func66, Tryz.ntmps66
    go_wp2
    go_quiet (fail)
    go_wp2
    go_ret
    exact ⟨rfl, below_drewN bb _⟩

end Go.Proofs.YtenalocpmigppaaGreatDoor
