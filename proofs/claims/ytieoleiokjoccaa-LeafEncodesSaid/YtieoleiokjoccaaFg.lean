/- slices.Grow, slices.Concat, slices.Equal of bytes. -/
import Derived.Test.YtieoleiokjoccaaFf
import Derived.Lib.AppendZeros
import Derived.Test.YtieoleiokjoccaaRefA
namespace Go.Proofs.Ytieoleiokjoccaa
open Go.RowKit

theorem zeroCells_u8 (n : Nat) : (Builtin.zeroCells (Value.cells (.int .u8 0)) n).size = n := by
  unfold Builtin.zeroCells
  simp [Value.cells]
set_option maxRecDepth 100000 in
set_option maxHeartbeats 1000000 in
theorem Grow_calls (n : Nat) (w : World) (hn : n ≤ 100000) :
    Calls Try.prog 78 #[.slice none 0 0, .int .i64 (n : Int)] w fun e w' => ∃ A c, e = .returned (.slice A 0 c) ∧ GB w' w.heap.size A 0 c [] ∧ n ≤ c ∧ Below w.heap.size w w' := by
  by_cases h0 : n = 0
  · subst h0
    go_enter Try.func78, Try.ntmps78
    go_wp2
    go_ret
    exact ⟨none, 0, rfl, GB.none_ _ _, Nat.le_refl _, Below.refl _ _⟩
  · obtain ⟨i0, hi, hz0, hz1, hz2⟩ := info_parts info_u8
    have hrun := fun ty => Go.Lib.run_append_nil_zeros (P := Try.prog) w 34 3 ty 5 i0 (.int .u8 0) .i64 .i64 Try.underlying34 Try.underlying3 hi hz0 n (by omega) (by rw [hz1]; decide) (by omega) (by rw [hz2]; omega)
    have hge := grownCap_ge w n 0 5
    have hcm : grownCap w n 0 5 ≤ maxLen := grownCap_le_maxLen w n 0 5 (by rw [maxLen_is]; omega)
    obtain ⟨C, hC⟩ : ∃ C, grownCap w n 0 5 = C := ⟨_, rfl⟩
    rw [hC] at hrun hge hcm
    have i1 : (0 : Int) < (n : Int) := by omega
    obtain ⟨w1, hw1⟩ : ∃ w1, w.drew.alloc (.cells (Builtin.zeroCells (Value.cells (.int .u8 0)) n ++ Builtin.zeroCells (Value.cells (.int .u8 0)) (C - n)) 5) = w1 := ⟨_, rfl⟩
    rw [hw1] at hrun
    have own : OB w1 w.heap.size 0 C [] := by
      rw [← hw1]
      exact OC.mk rfl _ (heap_alloc_new w.drew _) (Nat.zero_le _) hcm (by rw [Array.size_append, zeroCells_u8, zeroCells_u8]; omega) rfl
    have b1 : Below w.heap.size w w1 := by
      rw [← hw1]
      exact (Below.refl _ _).drew.alloc (Nat.le_refl _) _
    have HC := hideIt hge
    clear hC hw1 hcm hge h0
    go_enter Try.func78, Try.ntmps78
    go_wp2_with (at_builtin; refine Go.Lib.wpList_append_run _ rfl _ _ _ _ rfl _ _ rfl rfl _ _ (hrun _) ?_)
    go_ret
    exact ⟨_, _, rfl, GB.of own (Nat.le_refl _), HC.out, b1⟩
theorem flat_step {xss : List (List UInt8)} {i : Nat} {x : List UInt8} (h : xss[i]? = some x) : (xss.take (i + 1)).flatten = (xss.take i).flatten ++ x := by
  rw [List.take_add_one, h, List.flatten_append]; simp
theorem flat_le (xss : List (List UInt8)) (i : Nat) : (xss.take i).flatten.length ≤ xss.flatten.length := by
  conv => rhs; rw [← List.take_append_drop i xss, List.flatten_append, List.length_append]
  omega
set_option maxRecDepth 100000 in
set_option maxHeartbeats 2000000 in
theorem Concat_calls (A : Option Addr) (n c : Nat) (vs : List Value) (xss : List (List UInt8)) (w : World) (h : RM w A n c vs xss) (hb : xss.flatten.length ≤ 100000) (hn : n ≤ 1000) :
    Calls Try.prog 72 #[.slice A n c] w fun e w' => ∃ A' n' c', e = .returned (.slice A' n' c') ∧ GB w' w.heap.size A' n' c' xss.flatten ∧ Below w.heap.size w w' := by
  obtain ⟨N, hN⟩ : ∃ N, xss.flatten.length = N := ⟨_, rfl⟩
  rw [hN] at hb
  have HN := hideIt hN
  have HL := hideIt h.len
  have GR := fun W => Grow_calls N W hb
  clear hN
  go_enter Try.func72, Try.ntmps72
  go_wp2
  go_loop [3, 11] (fun ss ii => ∃ (i S : Nat), i ≤ n ∧ S ≤ N ∧ ss = .int .i64 (S : Int) ∧ ii = .int .i64 (i : Int) ∧ Hid (S = (xss.take i).flatten.length))
    (fun _ ii => n - (intOf ii).toNat)
  case atStart => exact ⟨0, 0, by omega, by omega, rfl, rfl, hideIt (by simp)⟩
  case round =>
    obtain ⟨i, S, hi, hS, rfl, rfl, HS⟩ := hrel
    by_cases hlt : i < n
    · obtain ⟨ad, Ai, ni, ci, x, rfl, hx, cell, rx⟩ := h.row i hlt
      have st := flat_step hx
      have le := flat_le xss (i + 1)
      have st2 := congrArg List.length st
      rw [List.length_append, rx.len, ← HS.out] at st2
      rw [HN.out, st2] at le
      have ST := hideIt st2
      have i1 : (i : Int) < (n : Int) := by omega
      clear st st2 hx
      go_wp2
      go_round
      case rel => exact ⟨i + 1, S + ni, by omega, le, by go_num, by go_num, hideIt ST.out.symm⟩
      case measure => simp [intOf]; omega
    · obtain rfl : n = i := by omega
      have e : S = N := by rw [HS.out, ← HN.out, List.take_of_length_le (by rw [HL.out]; exact Nat.le_refl _)]
      clear HS hS
      subst e
      go_upto_region 10 with (go_at_call 78; refine (GR _).mono ?_; rintro en w1 ⟨A1, e1, rfl, o1, hc, b1⟩)
      have h1 := h.below b1
      clear GR
      rcases GC.oc o1 with ⟨rfl, -, rfl, -⟩ | ⟨g1, rfl, s1, og⟩
      · have hz : S = 0 := by omega
        have hnil : ∀ x ∈ xss, x = [] := fun x hx => by
          have hz2 : xss.flatten = [] := List.eq_nil_of_length_eq_zero (by rw [HN.out, hz])
          exact List.flatten_eq_nil_iff.1 hz2 x hx
        have HNIL := hideIt hnil
        have HF : Hid (xss.flatten = []) := hideIt (List.eq_nil_of_length_eq_zero (by rw [HN.out, hz]))
        clear hz hnil o1
        go_wp2
        go_loop [6, 27] (fun ss ii => ∃ (i : Nat), i ≤ n ∧ ss = .slice none 0 0 ∧ ii = .int .i64 (i : Int))
          (fun _ ii => n - (intOf ii).toNat)
        case atStart => exact ⟨0, by omega, rfl, rfl⟩
        case round =>
          obtain ⟨i, hi, rfl, rfl⟩ := hrel
          by_cases hlt : i < n
          · obtain ⟨ad, Ai, ni, ci, x, rfl, hx, cell, rx⟩ := h1.row i hlt
            obtain rfl := HNIL.out x (List.mem_of_getElem? hx)
            have hni : ni = 0 := rx.len.symm
            subst hni
            have i1 : (i : Int) < (n : Int) := by omega
            clear hx
            go_wp2_with (with_reducible refine wpB_app_nil rfl (.tmp 31) (.tmp 32) rfl rfl _ _ _ _ rfl rx (by omega) ?_ ?_)
            go_round
            case rel => exact ⟨i + 1, by omega, rfl, by go_num⟩
            case measure => simp [intOf]; omega
          · obtain rfl : n = i := by omega
            go_wp2
            go_ret
            exact ⟨none, 0, 0, rfl, by rw [HF.out]; exact GB.none_ _ _, b1⟩
      · have ogb : OB w1 g1 0 e1 [] := og
        clear og o1
        go_wp2
        go_loopw [6, 27] (fun ss ii wr => ∃ (i T : Nat), i ≤ n ∧ T ≤ S ∧ ss = .slice (some ⟨g1, 0, none⟩) T e1 ∧ ii = .int .i64 (i : Int) ∧ Hid (T = (xss.take i).flatten.length) ∧ OB wr g1 T e1 (xss.take i).flatten ∧ Below w.heap.size w wr)
          (fun _ ii _ => n - (intOf ii).toNat)
        case atStart => exact ⟨0, 0, by omega, by omega, rfl, rfl, hideIt (by simp), by simpa using ogb, b1⟩
        case round =>
          clear ogb b1
          obtain ⟨i, T, hi, hT, rfl, rfl, HT, o, b⟩ := hrel
          by_cases hlt : i < n
          · obtain ⟨ad, Ai, ni, ci, x, rfl, hx, cell, rx⟩ := (h.below b).row i hlt
            have st := flat_step hx
            have le := flat_le xss (i + 1)
            have st2 := congrArg List.length st
            rw [List.length_append, rx.len, ← HT.out] at st2
            rw [HN.out, st2] at le
            have ST := hideIt st2
            have STL := hideIt st
            have i1 : (i : Int) < (n : Int) := by omega
            have bs := b.size
            clear st st2 hx
            go_wp2_with (with_reducible refine wpB_app rfl (.tmp 31) (.tmp 32) rfl _ _ _ _ rfl o _ _ _ _ rfl rx (T + ni) rfl (by omega) ?_; intro g4 c4 w4 q4 p4 o4 k4)
            obtain ⟨rfl, rfl⟩ := p4.out (by omega)
            rw [← STL.out] at o4
            have b4 := blw_own b k4 bs s1
            go_roundw
            case rel => exact ⟨i + 1, T + ni, by omega, le, rfl, by go_num, hideIt ST.out.symm, o4, b4⟩
            case measure => simp [intOf]; omega
          · obtain rfl : n = i := by omega
            rw [List.take_of_length_le (by rw [HL.out]; exact Nat.le_refl _)] at o
            go_wp2
            go_ret
            exact ⟨_, _, _, rfl, GB.of o s1, b⟩
theorem eqS_step {xs ys : List UInt8} {i : Nat} (h1 : i < xs.length) (h2 : i < ys.length) (h : xs.take i = ys.take i) (e : xs[i] = ys[i]) : xs.take (i + 1) = ys.take (i + 1) := by
  rw [List.take_succ_eq_append_getElem h1, List.take_succ_eq_append_getElem h2, h, e]
set_option maxRecDepth 100000 in
set_option maxHeartbeats 2000000 in
theorem Equal_calls (A B : Option Addr) (n c m d : Nat) (xs ys : List UInt8) (w : World) (h : RB w A n c xs) (h' : RB w B m d ys) (r : Bool) (hr : decide (xs = ys) = r) :
    Calls Try.prog 52 #[.slice A n c, .slice B m d] w fun e w' => e = .returned (.bool r) ∧ ∃ j, w' = w.drewN j := by
  have hx := h.len
  have hy := h'.len
  have mx : n ≤ 9223372036854775807 := by have h1 := RC.le h; have h2 := RC.mx h; rw [maxLen_is] at h2; omega
  by_cases hn : n = m
  · subst hn
    have HR := hideIt hr
    have HX := hideIt hx
    have HY := hideIt hy
    clear hr hx hy
    go_enter Try.func52, Try.ntmps52
    go_wp2
    go_loopw [13] (fun ii wr => ∃ (i j : Nat), i ≤ n ∧ ii = .int .i64 (i : Int) ∧ Hid (xs.take i = ys.take i) ∧ Hid (wr = w.drewN j))
      (fun ii _ => n - (intOf ii).toNat)
    case atStart => exact ⟨0, 0, by omega, rfl, hideIt rfl, hideIt (by rfl)⟩
    case round =>
      obtain ⟨i, j, hi, rfl, HT, HW⟩ := hrel
      by_cases hlt : i < n
      · have h1 : RB wr A n c xs := by rw [HW.out]; exact drewB h j
        have h2 : RB wr B n d ys := by rw [HW.out]; exact drewB h' j
        obtain ⟨ad, rfl, c1⟩ := h1.at_ i (by rw [HX.out]; exact hlt)
        obtain ⟨ad', rfl, c2⟩ := h2.at_ i (by rw [HY.out]; exact hlt)
        have i1 : (i : Int) < (n : Int) := by omega
        have i2 : (0 : Int) ≤ (i : Int) := by omega
        by_cases e : xs[i]'(by rw [HX.out]; exact hlt) = ys[i]'(by rw [HY.out]; exact hlt)
        · have ST := hideIt (eqS_step (by rw [HX.out]; exact hlt) (by rw [HY.out]; exact hlt) HT.out e)
          rw [e] at c1
          clear e h1 h2
          go_wp2
          go_quiet (fail)
          go_wp2
          go_roundw
          case rel => exact ⟨i + 1, j + nq, by omega, by go_num, ST, hideIt (by rw [HW.out, World.drewN_drewN])⟩
          case measure => simp [intOf]; omega
        · have hf : r = false := by
            rw [← HR.out]
            exact decide_eq_false (fun q => e (by subst q; rfl))
          subst hf
          have t1 : (((xs[i]'(by rw [HX.out]; exact hlt)).toNat : Int) != ((ys[i]'(by rw [HY.out]; exact hlt)).toNat : Int)) = true := by
            rw [bne_iff_ne]; intro q; exact e (UInt8.toNat_inj.1 (by omega))
          generalize ((xs[i]'(by rw [HX.out]; exact hlt)).toNat : Int) = a1 at *
          generalize ((ys[i]'(by rw [HY.out]; exact hlt)).toNat : Int) = a2 at *
          clear e h1 h2
          go_wp2
          go_quiet (fail)
          go_wp2
          go_ret
          exact ⟨rfl, _, by rw [HW.out, World.drewN_drewN]⟩
      · obtain rfl : n = i := by omega
        have ht : r = true := by
          rw [← HR.out]
          have := HT.out
          rw [List.take_of_length_le (by rw [HX.out]; exact Nat.le_refl _), List.take_of_length_le (by rw [HY.out]; exact Nat.le_refl _)] at this
          exact decide_eq_true this
        subst ht
        go_wp2
        go_ret
        exact ⟨rfl, j, HW.out⟩
  · have hf : r = false := by
      rw [← hr]
      exact decide_eq_false (fun q => hn (by rw [← hx, ← hy, q]))
    subst hf
    have e1 : ((n : Int) != (m : Int)) = true := by rw [bne_iff_ne]; omega
    clear hn hr hx hy
    go_enter Try.func52, Try.ntmps52
    go_wp2
    go_ret
    exact ⟨rfl, 0, rfl⟩
end Go.Proofs.Ytieoleiokjoccaa
