/- meta.Encode and the document's, of any head. -/
import Derived.Test.YtenalocpmigppaaGreatDoorMg
namespace Go.Proofs.YtenalocpmigppaaGreatDoor
open Go.RowKit

def I64 (z : Int) : Prop := -9223372036854775808 ≤ z ∧ z ≤ 9223372036854775807

theorem mayB_v0 (n r h k f e : Int) : mayB 0 n r h k f e = false := by
  have : numsB 0 n = false := by unfold numsB; rw [decide_eq_false_iff_not]; omega
  unfold mayB
  rw [this]; rfl

set_option maxRecDepth 100000 in
set_option maxHeartbeats 4000000 in
theorem Encode_no (v n r h k f e : Int) (w : World) (hn8 : I64 n) (hm : mayB v n r h k f e = false) :
    Calls Tryz.prog 33 #[.agg #[.int .i64 v, .int .i64 n, .int .i64 r, .int .i64 h, .int .i64 k, .int .i64 f, .int .i64 e]] w fun en w' => en = .returned (.tuple #[.slice none 0 0, .int .i64 71]) ∧ Below w.heap.size w w' := by
  have HM := hideIt hm
  clear hm
  by_cases hz : v = 0
  · subst hz
    have hM := mayB_v0
    go_enter Tryz.func33, Tryz.ntmps33
    go_wp2_with (go_at_call 67; refine (may_calls _ _ _ _ _ _ _ _ (by first | exact hn8 | decide)).mono ?_; rintro en w0 ⟨rfl, x0⟩; rw [hM])
    all_goals go_ret2
    all_goals first | exact ⟨rfl, below1 _ _⟩ | exact ⟨rfl, (below1 _ _).trans (x0.mono (by simp))⟩
  · go_enter Tryz.func33, Tryz.ntmps33
    go_wp2_with (go_at_call 67; refine (may_calls _ _ _ _ _ _ _ _ hn8).mono ?_; rintro en w0 ⟨rfl, x0⟩; rw [HM.out])
    go_ret2
    exact ⟨rfl, (below1 _ _).trans (x0.mono (by simp))⟩

theorem Encode_any (v n r h k f e : Int) (w : World) (hn8 : I64 n) (hM : Marks w) :
    Calls Tryz.prog 33 #[.agg #[.int .i64 v, .int .i64 n, .int .i64 r, .int .i64 h, .int .i64 k, .int .i64 f, .int .i64 e]] w (Two w (encR v n r h k f e) (encC v n r h k f e)) := by
  unfold encR encC
  cases hm : mayB v n r h k f e
  · refine (Encode_no v n r h k f e w hn8 hm).mono ?_
    rintro en w' ⟨rfl, x⟩
    exact ⟨_, _, _, rfl, RB.nil _, x⟩
  · have b := mayB_bounds hm
    have p1 : 256 ^ 1 = 256 := by decide
    have p4 : 256 ^ 4 = 4294967296 := by decide
    have p8 : 256 ^ 8 = 18446744073709551616 := by decide
    obtain ⟨v, rfl⟩ : ∃ m : Nat, v = m := ⟨v.toNat, by omega⟩
    obtain ⟨n, rfl⟩ : ∃ m : Nat, n = m := ⟨n.toNat, by omega⟩
    obtain ⟨r, rfl⟩ : ∃ m : Nat, r = m := ⟨r.toNat, by omega⟩
    obtain ⟨h, rfl⟩ : ∃ m : Nat, h = m := ⟨h.toNat, by omega⟩
    obtain ⟨k, rfl⟩ : ∃ m : Nat, k = m := ⟨k.toNat, by omega⟩
    obtain ⟨f, rfl⟩ : ∃ m : Nat, f = m := ⟨f.toNat, by omega⟩
    obtain ⟨e, rfl⟩ : ∃ m : Nat, e = m := ⟨e.toNat, by omega⟩
    refine (Encode_ok v n r h k f e w (hideIt (by omega)) (hideIt (by omega)) (hideIt (by omega)) (hideIt (by omega)) (hideIt (by omega)) (hideIt (by omega)) (hideIt (by omega)) hm hM).mono ?_
    rintro en w' ⟨g, rfl, s, o, x⟩
    exact ⟨_, _, _, rfl, o.read, x⟩
end Go.Proofs.YtenalocpmigppaaGreatDoor
