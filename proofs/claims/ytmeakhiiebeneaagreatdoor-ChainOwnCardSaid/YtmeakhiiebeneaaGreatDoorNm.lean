/- SameInts. -/
import Derived.Test.YtmeakhiiebeneaaGreatDoorSm
import Derived.Test.YtmeakhiiebeneaaGreatDoorM1
namespace Go.Proofs.YtmeakhiiebeneaaGreatDoor
open Go.RowKit

theorem RI.drew_ {w : World} {A : Option Addr} {n c : Nat} {l : List Int} (h : RI w A n c l) (m : Nat) : RI (w.drewN m) A n c l := h.below ⟨rfl, rfl, rfl, Nat.le_refl _, fun _ _ => rfl⟩
set_option maxRecDepth 100000 in
set_option maxHeartbeats 2000000 in
theorem SameInts_calls (A A' : Option Addr) (n c n' c' : Nat) (l m : List Int) (w : World) (h : RI w A n c l) (h' : RI w A' n' c' m) (r : Bool) (hr : r = decide (l = m)) :
    Calls Tryz.prog 184 #[.slice A n c, .slice A' n' c'] w fun e w' => e = .returned (.bool r) ∧ ∃ j, w' = w.drewN j := by
  have HL := hideIt h.len
  have HL' := hideIt h'.len
  have hmx := h.max
  by_cases hn : n = n'
  · subst hn
    have HR := hideIt hr
    clear hr
    go_enter Tryz.func184, Tryz.ntmps184
    go_wp2
    go_loopw [5] (fun ii wr => ∃ i, i ≤ n ∧ ii = .int .i64 (i : Int) ∧ Hid (l.take i = m.take i) ∧ ∃ j, wr = w.drewN j)
      (fun ii _ => n - (intOf ii).toNat)
    case atStart => exact ⟨0, by omega, rfl, hideIt rfl, 0, rfl⟩
    case round =>
      obtain ⟨i, hi, rfl, HT, j, hw⟩ := hrel
      have hr1 : RI wr A n c l := by rw [hw]; exact h.drew_ j
      have hr2 : RI wr A' n c' m := by rw [hw]; exact h'.drew_ j
      have HW := hideIt hw
      clear hw
      by_cases hlt : i < n
      · have hl1 : i < l.length := by rw [HL.out]; exact hlt
        have hl2 : i < m.length := by rw [HL'.out]; exact hlt
        obtain ⟨ad, rfl, cx⟩ := hr1.at_ i hl1
        obtain ⟨ad', rfl, cy⟩ := hr2.at_ i hl2
        have hx : l[i]? = some l[i] := List.getElem?_eq_getElem hl1
        have hy : m[i]? = some m[i] := List.getElem?_eq_getElem hl2
        generalize l[i] = x at cx hx
        generalize m[i] = y at cy hy
        have i1 : (i : Int) < (n : Int) := by omega
        by_cases e : x = y
        · subst e
          have st := hideIt (take_eq_step HT.out hx hy rfl)
          clear hx hy
          go_wp2
          go_quiet (fail)
          go_wp2
          go_roundw
          case rel => exact ⟨i + 1, by omega, by go_num, st, _, by rw [HW.out, World.drewN_drewN]⟩
          case measure => simp [intOf]; omega
        · have hf : r = false := by rw [HR.out]; exact decide_eq_false (ne_at hx hy e)
          subst hf
          have e0 : (x == y) = false := beq_eq_false_iff_ne.2 e
          clear e hx hy
          go_wp2
          go_quiet (fail)
          go_wp2
          go_ret
          exact ⟨rfl, _, by rw [HW.out, World.drewN_drewN]⟩
      · obtain rfl : n = i := by omega
        have ht : r = true := by rw [HR.out]; exact decide_eq_true (take_all_eq HT.out HL.out HL'.out)
        subst ht
        go_wp2
        go_ret
        exact ⟨rfl, j, HW.out⟩
  · have hf : r = false := by
      rw [hr]
      exact decide_eq_false (fun q => hn (by rw [← HL.out, ← HL'.out, q]))
    subst hf
    have e0 : ((n : Int) == (n' : Int)) = false := beq_eq_false_iff_ne.2 (by omega)
    have e1 : ((n : Int) != (n' : Int)) = true := by simp only [bne, e0]; rfl
    clear hn hr
    go_enter Tryz.func184, Tryz.ntmps184
    go_wp2
    go_ret
    exact ⟨rfl, 0, rfl⟩
end Go.Proofs.YtmeakhiiebeneaaGreatDoor
