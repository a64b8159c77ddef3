/- SameByteLists. -/
import Derived.Test.YtmeakhiiebeneaaGreatDoorM1
import Derived.Deep.QuietTactic
import Derived.BigQuiet
namespace Go.Proofs.YtmeakhiiebeneaaGreatDoor
open Go.RowKit

theorem RM.drew_ {w : World} {A : Option Addr} {n c : Nat} {vs : List Value} {xss : List (List UInt8)} (h : RM w A n c vs xss) (m : Nat) : RM (w.drewN m) A n c vs xss := h.below ⟨rfl, rfl, rfl, Nat.le_refl _, fun _ _ => rfl⟩
theorem RB.drew_ {w : World} {A : Option Addr} {n c : Nat} {xs : List UInt8} (h : RB w A n c xs) (m : Nat) : RB (w.drewN m) A n c xs := h.below ⟨rfl, rfl, rfl, Nat.le_refl _, fun _ _ => rfl⟩
theorem take_eq_step {α : Type} {l m : List α} {i : Nat} {x y : α} (h : l.take i = m.take i) (hx : l[i]? = some x) (hy : m[i]? = some y) (e : x = y) : l.take (i + 1) = m.take (i + 1) := by
  rw [List.take_add_one, List.take_add_one, hx, hy, h, e]
theorem ne_at {α : Type} {l m : List α} {i : Nat} {x y : α} (hx : l[i]? = some x) (hy : m[i]? = some y) (e : x ≠ y) : l ≠ m := by
  rintro rfl; rw [hx] at hy; injection hy with hy; exact e hy
theorem take_all_eq {α : Type} {l m : List α} {n : Nat} (h : l.take n = m.take n) (h1 : l.length = n) (h2 : m.length = n) : l = m := by
  rw [List.take_of_length_le (by omega), List.take_of_length_le (by omega)] at h; exact h

set_option maxRecDepth 100000 in
set_option maxHeartbeats 2000000 in
theorem SameByteLists_calls (A A' : Option Addr) (n c n' c' : Nat) (vs vs' : List Value) (xss yss : List (List UInt8)) (w : World) (h : RM w A n c vs xss) (h' : RM w A' n' c' vs' yss) (r : Bool) (hr : r = decide (xss = yss)) :
    Calls Tryz.prog 32 #[.slice A n c, .slice A' n' c'] w fun e w' => e = .returned (.bool r) ∧ ∃ j, w' = w.drewN j := by
  have HL := hideIt h.len
  have HL' := hideIt h'.len
  have hmx : n ≤ 9223372036854775807 := by have h1 := RC.le h.rc; have h2 := RC.mx h.rc; rw [maxLen_is] at h2; omega
  by_cases hn : n = n'
  · subst hn
    have HR := hideIt hr
    clear hr
    go_enter Tryz.func32, Tryz.ntmps32
    go_wp2
    go_loopw [5] (fun ii wr => ∃ i, i ≤ n ∧ ii = .int .i64 (i : Int) ∧ Hid (xss.take i = yss.take i) ∧ ∃ j, wr = w.drewN j)
      (fun ii _ => n - (intOf ii).toNat)
    case atStart => exact ⟨0, by omega, rfl, hideIt rfl, 0, rfl⟩
    case round =>
      obtain ⟨i, hi, rfl, HT, j, hw⟩ := hrel
      have hr1 : RM wr A n c vs xss := by rw [hw]; exact h.drew_ j
      have hr2 : RM wr A' n c' vs' yss := by rw [hw]; exact h'.drew_ j
      have HW := hideIt hw
      clear hw
      by_cases hlt : i < n
      · obtain ⟨ad, A1, n1, c1, x, rfl, hx, cx, rx⟩ := hr1.row i hlt
        obtain ⟨ad', A2, n2, c2, y, rfl, hy, cy, ry⟩ := hr2.row i hlt
        have i1 : (i : Int) < (n : Int) := by omega
        by_cases e : x = y
        · have st := hideIt (take_eq_step HT.out hx hy e)
          have con : ∀ m, Calls Tryz.prog 12 #[.slice A1 n1 c1, .slice A2 n2 c2] (wr.drewN m) fun e w' => e = .returned (.bool true) ∧ w' = wr.drewN m := fun m =>
            (SameBytes_calls _ _ _ _ _ _ _ _ _ (rx.drew_ m) (ry.drew_ m) true (by simp [e])).mono fun _ _ ⟨a, b⟩ => ⟨a, b.symm⟩
          clear e hx hy
          go_wp2
          go_quiet (first | (go_at_call 12; exact Calls.quiet_of_same (con _)))
          go_wp2
          go_roundw
          case rel => exact ⟨i + 1, by omega, by go_num, st, _, by rw [HW.out, World.drewN_drewN]⟩
          case measure => simp [intOf]; omega
        · have hf : r = false := by rw [HR.out]; exact decide_eq_false (ne_at hx hy e)
          subst hf
          have con : ∀ m, Calls Tryz.prog 12 #[.slice A1 n1 c1, .slice A2 n2 c2] (wr.drewN m) fun e w' => e = .returned (.bool false) ∧ w' = wr.drewN m := fun m =>
            (SameBytes_calls _ _ _ _ _ _ _ _ _ (rx.drew_ m) (ry.drew_ m) false (by simp [e])).mono fun _ _ ⟨a, b⟩ => ⟨a, b.symm⟩
          clear e hx hy
          go_wp2
          go_quiet (first | (go_at_call 12; exact Calls.quiet_of_same (con _)))
          go_wp2
          go_ret
          exact ⟨rfl, _, by rw [HW.out, World.drewN_drewN]⟩
      · obtain rfl : n = i := by omega
        have ht : r = true := by rw [HR.out]; exact decide_eq_true (take_all_eq HT.out HL.out HL'.out)
        subst ht
        go_wp2
        go_ret
        exact ⟨rfl, j, HW.out⟩
  · have hf : r = false := by
      rw [hr]
      exact decide_eq_false (fun q => hn (by rw [← HL.out, ← HL'.out, q]))
    subst hf
    have e0 : ((n : Int) == (n' : Int)) = false := beq_eq_false_iff_ne.2 (by omega)
    have e1 : ((n : Int) != (n' : Int)) = true := by simp only [bne, e0]; rfl
    clear hn hr
    go_enter Tryz.func32, Tryz.ntmps32
    go_wp2
    go_ret
    exact ⟨rfl, 0, rfl⟩
end Go.Proofs.YtmeakhiiebeneaaGreatDoor
