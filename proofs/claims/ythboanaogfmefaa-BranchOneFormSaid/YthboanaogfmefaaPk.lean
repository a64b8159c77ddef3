/- coppiceref: SameKids, Kids, ByteLists. -/
import Derived.Test.YthboanaogfmefaaPc
import Derived.Test.YthboanaogfmefaaSm
namespace Go.Proofs.Ythboanaogfmefaa
open Go.RowKit

theorem RK.drew_ {w : World} {A : Option Addr} {n c : Nat} {l : List (Int × Int)} (h : RK w A n c l) (m : Nat) : RK (w.drewN m) A n c l := h.below ⟨rfl, rfl, rfl, Nat.le_refl _, fun _ _ => rfl⟩
set_option maxRecDepth 100000 in
set_option maxHeartbeats 2000000 in
theorem SameKids_calls (A A' : Option Addr) (n c n' c' : Nat) (l l' : List (Int × Int)) (w : World) (h : RK w A n c l) (h' : RK w A' n' c' l') (r : Bool) (hr : r = decide (l = l')) :
    Calls Try.prog 31 #[.slice A n c, .slice A' n' c'] w fun e w' => e = .returned (.bool r) ∧ ∃ j, w' = w.drewN j := by
  have HL := hideIt h.len
  have HL' := hideIt h'.len
  have hmx : n ≤ 9223372036854775807 := h.max
  have HR := hideIt hr
  clear hr
  by_cases hn : n = n'
  · subst hn
    go_enter Try.func31, Try.ntmps31
    go_wp2
    go_loopw [5] (fun ii wr => ∃ i, i ≤ n ∧ ii = .int .i64 (i : Int) ∧ Hid (l.take i = l'.take i) ∧ ∃ j, Hid (wr = w.drewN j))
      (fun ii _ => n - (intOf ii).toNat)
    case atStart => exact ⟨0, by omega, rfl, hideIt rfl, 0, hideIt rfl⟩
    case round =>
      obtain ⟨i, hi, rfl, HT, j, HW⟩ := hrel
      have hr1 : RK wr A n c l := by rw [HW.out]; exact h.drew_ j
      have hr2 : RK wr A' n c' l' := by rw [HW.out]; exact h'.drew_ j
      by_cases hlt : i < n
      · obtain ⟨ad, x, y, rfl, hx, c1, c2⟩ := hr1.at_ i hlt
        obtain ⟨ad', x', y', rfl, hx', c1', c2'⟩ := hr2.at_ i hlt
        have i1 : (i : Int) < (n : Int) := by omega
        by_cases e1 : x = x'
        · subst e1
          by_cases e2 : y = y'
          · subst e2
            have st := hideIt (take_eq_step HT.out hx hx' rfl)
            clear hx hx'
            go_wp2
            go_quiet (fail)
            go_wp2
            go_roundw
            case rel => exact ⟨i + 1, by omega, by go_num, st, _, hideIt (by rw [HW.out, World.drewN_drewN])⟩
            case measure => simp [intOf]; omega
          · have hf : r = false := by rw [HR.out]; exact decide_eq_false (ne_at hx hx' (fun q => e2 (congrArg Prod.snd q)))
            subst hf
            have b2 : (y == y') = false := beq_eq_false_iff_ne.2 e2
            clear e2 hx hx'
            go_wp2
            go_quiet (fail)
            go_wp2
            go_ret
            exact ⟨rfl, _, by rw [HW.out, World.drewN_drewN]⟩
        · have hf : r = false := by rw [HR.out]; exact decide_eq_false (ne_at hx hx' (fun q => e1 (congrArg Prod.fst q)))
          subst hf
          have b1 : (x == x') = false := beq_eq_false_iff_ne.2 e1
          clear e1 hx hx'
          go_wp2
          go_quiet (fail)
          go_wp2
          go_ret
          exact ⟨rfl, _, by rw [HW.out, World.drewN_drewN]⟩
      · obtain rfl : n = i := by omega
        have ht : r = true := by rw [HR.out]; exact decide_eq_true (take_all_eq HT.out HL.out HL'.out)
        subst ht
        go_wp2
        go_ret
        exact ⟨rfl, _, HW.out⟩
  · have hf : r = false := by
      rw [HR.out]
      refine decide_eq_false (fun q => hn ?_)
      rw [← HL.out, ← HL'.out, q]
    subst hf
    have b : ((n : Int) != (n' : Int)) = true := by rw [bne_iff_ne]; omega
    go_enter Try.func31, Try.ntmps31
    go_wp2
    go_ret
    exact ⟨rfl, 0, rfl⟩

section
variable {w : World} {ops : Array Oper} {rest : List Oper} {o : Oper} {a : Act} {Q : Exit → Act → World → Prop}
theorem wpM_make (hg : o.guard = none) (l c : Operand) (hop : o.op = Op.makeSlice 22 l c) (kl kc : IntKind) (C : Int) (n : Nat) (hl : a.eval l = .int kl 0) (hc : a.eval c = .int kc C) (hC : C = (n : Int)) (hn : n ≤ 1000000)
    (h : ∀ g w', w.heap.size ≤ g → OC w' 28 1 g 0 n [] → w.grownBy w' none → wpList Try.prog ops Q rest (a.put o.dst (.slice (some ⟨g, 0, none⟩) 0 n)) w') : wpList Try.prog ops Q (o :: rest) a w := by
  obtain ⟨i0, hi, hz0, hz1, hz2⟩ := info_parts info_bs
  exact wpList_make_own w hg l c 22 hop 0 28 i0 (.slice none 0 0) 1 Try.underlying22 hi hz0 hz1 kl kc C n hl hc hC (by rw [hz2]; omega) (by rw [maxLen_is]; omega) (Nat.zero_le _)
    fun w' h1 h2 => h _ w' (Nat.le_refl _) (OC.of_own h1) h2
theorem wpK_make (hg : o.guard = none) (l c : Operand) (hop : o.op = Op.makeSlice 30 l c) (kl kc : IntKind) (C : Int) (n : Nat) (hl : a.eval l = .int kl 0) (hc : a.eval c = .int kc C) (hC : C = (n : Int)) (hn : n ≤ 1000000)
    (h : ∀ g w', w.heap.size ≤ g → OC w' 37 2 g 0 n [] → w.grownBy w' none → wpList Try.prog ops Q rest (a.put o.dst (.slice (some ⟨g, 0, none⟩) 0 n)) w') : wpList Try.prog ops Q (o :: rest) a w := by
  obtain ⟨i0, hi, hz0, hz1, hz2⟩ := info_parts info_kid
  exact wpList_make_own w hg l c 30 hop 0 37 i0 (.agg #[.int .i64 0, .int .i64 0]) 2 Try.underlying30 hi hz0 hz1 kl kc C n hl hc hC (by rw [hz2]; omega) (by rw [maxLen_is]; omega) (Nat.zero_le _)
    fun w' h1 h2 => h _ w' (Nat.le_refl _) (OC.of_own h1) h2
end
end Go.Proofs.Ythboanaogfmefaa
