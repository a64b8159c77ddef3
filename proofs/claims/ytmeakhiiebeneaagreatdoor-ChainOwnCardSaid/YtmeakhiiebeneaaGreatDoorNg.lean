/- chain: DecodeList. -/
import Derived.Test.YtmeakhiiebeneaaGreatDoorNf
namespace Go.Proofs.YtmeakhiiebeneaaGreatDoor
open Go.RowKit

def DecLs (w : World) (r : Nat × List Int × Int) (e : Ending) (w' : World) : Prop := ∃ A m c, e = .returned (.tuple #[.int .i64 (r.1 : Int), .slice A m c, .int .i64 r.2.2]) ∧ GC w' w.heap.size 3 1 A m c (i64s r.2.1) ∧ Below w.heap.size w w'
theorem okL_false_kind {b : List UInt8} (h : isKind 4 b = false) : decL b = (0, [], 61) := by
  unfold decL okL; rw [h, Bool.false_and, Bool.false_and]; rfl
theorem okL_false_cnt {b : List UInt8} (h : ¬ cntOf b ≤ 1021) : decL b = (0, [], 61) := by
  unfold decL okL; rw [decide_eq_false h, Bool.and_false, Bool.false_and]; rfl
theorem okL_false_list {b : List UInt8} (h : isListB (nextOf b) (numsOf b (cntOf b)) = false) : decL b = (0, [], 61) := by
  unfold decL okL; rw [h, Bool.false_and, Bool.and_false]; rfl
theorem okL_false_zero {b : List UInt8} (h : (b.drop (7 + 4 * cntOf b)).all (· == 0) = false) : decL b = (0, [], 61) := by
  unfold decL okL; rw [h, Bool.and_false, Bool.and_false]; rfl
theorem okL_true {b : List UInt8} (h1 : isKind 4 b = true) (h0 : cntOf b ≤ 1021) (h2 : isListB (nextOf b) (numsOf b (cntOf b)) = true) (h3 : (b.drop (7 + 4 * cntOf b)).all (· == 0) = true) : decL b = (nextOf b, numsOf b (cntOf b), 0) := by
  unfold decL okL; rw [h1, h2, h3, decide_eq_true h0]; rfl
theorem four_at (b : List UInt8) (M k : Nat) (h : k < M) : (((b.drop 7).take (4 * M)).drop (4 * k)).take 4 = (b.drop (7 + 4 * k)).take 4 := by
  rw [List.drop_take, List.drop_drop, List.take_take, Nat.min_eq_left (by omega)]
theorem numAt_nat (b : List UInt8) (k : Nat) : ∃ z : Nat, numAt b k = (z : Int) ∧ unle ((b.drop (7 + 4 * k)).take 4) = z ∧ z < 256 ^ 4 := by
  refine ⟨_, rfl, rfl, Nat.lt_of_lt_of_le (unle_lt _) (Nat.pow_le_pow_right (by decide) ?_)⟩
  rw [List.length_take]; omega

set_option maxRecDepth 100000 in
set_option maxHeartbeats 4000000 in
theorem DecodeList_calls (A : Option Addr) (n c : Nat) (b : List UInt8) (w : World) (h : RB w A n c b) :
    Calls Tryz.prog 41 #[.slice A n c] w (DecLs w (decL b)) := by
  have HL := hideIt h.len
  have R := fun W q => read_calls 4 A n c b W q
  by_cases hk : isKind 4 b = true
  · have hn : n = 4092 := by rw [← HL.out]; exact kind_len hk
    subst hn
    obtain ⟨ad, rfl, -⟩ := RB.addr h (by rw [HL.out]; decide)
    have hcap := RC.le h
    have mx : c ≤ 9223372036854775807 := by have h2 := RC.mx h; rw [maxLen_is] at h2; exact h2
    obtain ⟨X, hX⟩ : ∃ X, nextOf b = X := ⟨_, rfl⟩
    obtain ⟨M, hM⟩ : ∃ M, cntOf b = M := ⟨_, rfl⟩
    have R' : ∀ W, RB W (some ad) 4092 c b → Calls Tryz.prog 93 #[.int .u8 4, .slice (some ad) 4092 c] W fun e W' => e = .returned (.tuple #[.int .i64 (X : Int), .int .i64 (M : Int), .bool true]) ∧ Below W.heap.size W W' := by
      intro W q
      refine (R W q).mono ?_
      rintro e W' ⟨x, m, rfl, hxm, bb⟩
      obtain ⟨rfl, rfl⟩ := hxm hk
      rw [hk, hX, hM]
      exact ⟨rfl, bb⟩
    clear R
    have xl : X < 4294967296 := by rw [← hX]; exact next_lt b
    have ml : M < 65536 := by rw [← hM]; exact cnt_lt b
    by_cases hc : M ≤ 1021
    · obtain ⟨L, hLL⟩ : ∃ L, numsOf b M = L := ⟨_, rfl⟩
      have q1 : isListB X L = true → (b.drop (7 + 4 * M)).all (· == 0) = true → decL b = (X, L, 0) := by
        intro u1 u2
        rw [← hX, ← hLL, ← hM]
        refine okL_true hk (by rw [hM]; exact hc) ?_ ?_
        · rw [hX, hM, hLL]; exact u1
        · rw [hM]; exact u2
      have q2 : isListB X L = false → decL b = (0, [], 61) := by
        intro u1
        refine okL_false_list ?_
        rw [hX, hM, hLL]; exact u1
      have q3 : (b.drop (7 + 4 * M)).all (· == 0) = false → decL b = (0, [], 61) := by
        intro u1
        refine okL_false_zero ?_
        rw [hM]; exact u1
      have Q1 := hideIt q1
      have Q2 := hideIt q2
      have Q3 := hideIt q3
      have HLL := hideIt hLL
      have lL : L.length = M := by rw [← hLL]; exact numsOf_length b M
      have LL := hideIt lL
      have IL := fun W A' c' (q : RI W A' M c' L) => isList_calls (X : Int) A' M c' L W q
      have i2 : (4092 : Int) ≤ (c : Int) := by omega
      obtain ⟨B, hB⟩ : ∃ B, (b.drop 7).take (4 * M) = B := ⟨_, rfl⟩
      have lB : B.length = 4 * M := by rw [← hB, List.length_take, List.length_drop, HL.out]; omega
      have hG : ∀ k, k < M → ∀ W r, Rd W r B (4 * k) 0 → Calls Tryz.prog 95 #[.pointer (some ⟨r, 0, none⟩)] W fun e w' => e = .returned (.int .u32 (unle ((b.drop (7 + 4 * k)).take 4) : Nat)) ∧ Rd w' r B (4 * k + 4) 0 ∧ W.grownBy w' (some r) := by
        intro k hkM W r q
        have := Get32_ok r B (4 * k) W q (by omega)
        rw [← hB, four_at b M k hkM] at this
        rw [← hB]
        exact this
      have HG := hideIt hG
      clear hX hM hLL lL lB hG q1 q2 q3 hk
      rcases Nat.eq_zero_or_pos M with hM0 | hM0

      · subst hM0
        obtain rfl : B = [] := by rw [← hB]; simp
        have cut : RB w (some ad) 0 0 [] := RB.zero w _
        have zr : RB w (some ⟨ad.block, ad.off + 7, none⟩) 4085 (c - 7) (b.drop 7) := by
          have := h.cut (A' := some (ad.add 7)) 7 4092 c (by omega) (by omega) (by omega) (by omega) (fun _ => rfl) (fun q => by cases q)
          simp only [Addr.add_succ'] at this
          rwa [show (b.drop 7).take (4092 - 7) = b.drop 7 from List.take_of_length_le (by rw [List.length_drop, HL.out]; exact Nat.le_refl _)] at this
        have Z := fun W (q : RB W (some ⟨ad.block, ad.off + 7, none⟩) 4085 (c - 7) (b.drop 7)) => zeros_calls _ _ _ _ W q
        have i3 : (7 : Int) ≤ (c : Int) := by omega
        have hcM : ¬ c = 7 := by omega
        have Q1 : Hid (isListB X L = true → (b.drop 7).all (· == 0) = true → decL b = (X, L, 0)) := Q1
        have Q3 : Hid ((b.drop 7).all (· == 0) = false → decL b = (0, [], 61)) := Q3
        clear hB
        go_enter Tryz.func41, Tryz.ntmps41
        go_upto_region 2 with (go_at_call 93; refine (R' _ h).mono ?_; rintro en w1 ⟨rfl, b1⟩)
        have cut1 := cut.below b1
        go_upto_region 6 with (go_at_call 23; refine (NewReader_calls _ _ _ _ _ cut1 (by omega)).mono ?_; rintro en w2 ⟨r, rfl, s2, d2, bb2⟩)
        have b2 := blw_step b1 bb2
        have rlo := Nat.le_trans b1.size s2
        have rl := d2.lt
        clear cut cut1 b1 bb2 s2
        go_wp2
        go_loopw [10, 32] (fun ll kk wr => ∃ (k c10 : Nat) (A10 : Option Addr), k ≤ 0 ∧ kk = .int .i64 (k : Int) ∧ ll = .slice A10 k c10 ∧ GC wr (r + 1) 3 1 A10 k c10 (i64s (numsOf b k)) ∧ Rd wr r [] (4 * k) 0 ∧ Below w.heap.size w wr ∧ r < wr.heap.size)
          (fun _ kk _ => 0 - (intOf kk).toNat)
        case atStart => exact ⟨0, 0, none, by omega, rfl, rfl, GC.nil _ _ _ _, d2, b2, rl⟩
        case round =>
          obtain ⟨k, c10, A10, hkM, rfl, rfl, G, R, bw, rw_⟩ := hrel
          · obtain rfl : k = 0 := by omega
            have GL := GC.lower G (Nat.le_trans rlo (Nat.le_succ r))
            rw [HLL.out] at GL
            have rI : RI wr A10 0 c10 L := GL.read
            have zw := RB.below zr bw
            by_cases u1 : isListB X L = true
            · by_cases u2 : (b.drop 7).all (· == 0) = true
              · rw [u1] at IL
                rw [u2] at Z
                have FQ := hideIt (Q1.out u1 u2)
                clear u1 u2 G
                go_wp2_with (first
                  | (go_at_call 94; refine (Z _ zw).mono ?_; rintro en wx ⟨rfl, rfl⟩)
                  | (go_at_call 91; refine (IL _ _ _ rI).mono ?_; rintro en wx ⟨rfl, rfl⟩))
                go_ret3
                rw [FQ.out]
                exact ⟨_, _, _, rfl, GL, bw⟩
              · have u2' : (b.drop 7).all (· == 0) = false := by simpa using u2
                rw [u1] at IL
                rw [u2'] at Z
                have FQ := hideIt (Q3.out u2')
                clear u1 u2 u2' G
                go_wp2_with (first
                  | (go_at_call 94; refine (Z _ zw).mono ?_; rintro en wx ⟨rfl, rfl⟩)
                  | (go_at_call 91; refine (IL _ _ _ rI).mono ?_; rintro en wx ⟨rfl, rfl⟩))
                go_ret3
                rw [FQ.out]
                exact ⟨_, _, _, rfl, GC.nil _ _ _ _, bw⟩
            · have u1' : isListB X L = false := by simpa using u1
              rw [u1'] at IL
              have FQ := hideIt (Q2.out u1')
              clear u1 u1' G
              go_wp2_with (go_at_call 91; refine (IL _ _ _ rI).mono ?_; rintro en wx ⟨rfl, rfl⟩)
              go_ret3
              rw [FQ.out]
              exact ⟨_, _, _, rfl, GC.nil _ _ _ _, bw⟩
      · have cut : RB w (some ⟨ad.block, ad.off + 7, none⟩) (4 * M) (4 * M) B := by
          have := h.cut (A' := some (ad.add 7)) 7 (7 + 4 * M) (7 + 4 * M) (by omega) (by omega) (by omega) (by omega) (fun _ => rfl) (fun q => by cases q)
          simp only [Addr.add_succ'] at this
          rw [show 7 + 4 * M - 7 = 4 * M by omega, hB] at this
          exact this
        have zr : RB w (some (ad.add (7 + 4 * M))) (4092 - (7 + 4 * M)) (c - (7 + 4 * M)) (b.drop (7 + 4 * M)) := by
          have := h.cut (A' := some (ad.add (7 + 4 * M))) (7 + 4 * M) 4092 c (by omega) (by omega) (by omega) (by omega) (fun _ => rfl) (fun q => by cases q)
          rwa [show (b.drop (7 + 4 * M)).take (4092 - (7 + 4 * M)) = b.drop (7 + 4 * M) from List.take_of_length_le (by rw [List.length_drop, HL.out]; exact Nat.le_refl _)] at this
        have Z := fun W (q : RB W (some (ad.add (7 + 4 * M))) (4092 - (7 + 4 * M)) (c - (7 + 4 * M)) (b.drop (7 + 4 * M))) => zeros_calls _ _ _ _ W q
        have i4 : (1 : Int) ≤ (M : Int) := by omega
        have ec : (7 : Int) + 4 * (M : Int) - 7 = 4 * (M : Int) := by omega
        have e2 : ((7 : Int) + 4 * (M : Int)).toNat = 7 + 4 * M := by omega
        have i1 : (7 : Int) + 4 * (M : Int) ≤ 4092 := by omega
        have i3 : (7 : Int) + 4 * (M : Int) ≤ (c : Int) := by omega
        have hcM : ¬ c = 7 + 4 * M := by omega
        clear hB
        go_enter Tryz.func41, Tryz.ntmps41
        go_upto_region 2 with (go_at_call 93; refine (R' _ h).mono ?_; rintro en w1 ⟨rfl, b1⟩)
        have cut1 := cut.below b1
        go_upto_region 6 with (go_at_call 23; refine (NewReader_calls _ _ _ _ _ cut1 (by omega)).mono ?_; rintro en w2 ⟨r, rfl, s2, d2, bb2⟩)
        have b2 := blw_step b1 bb2
        have rlo := Nat.le_trans b1.size s2
        have rl := d2.lt
        clear cut cut1 b1 bb2 s2
        go_wp2
        go_loopw [10, 32] (fun ll kk wr => ∃ (k c10 : Nat) (A10 : Option Addr), k ≤ M ∧ kk = .int .i64 (k : Int) ∧ ll = .slice A10 k c10 ∧ GC wr (r + 1) 3 1 A10 k c10 (i64s (numsOf b k)) ∧ Rd wr r B (4 * k) 0 ∧ Below w.heap.size w wr ∧ r < wr.heap.size)
          (fun _ kk _ => M - (intOf kk).toNat)
        case atStart => exact ⟨0, 0, none, by omega, rfl, rfl, GC.nil _ _ _ _, d2, b2, rl⟩
        case round =>
          obtain ⟨k, c10, A10, hkM, rfl, rfl, G, R, bw, rw_⟩ := hrel
          by_cases hlt : k < M
          · obtain ⟨z, hz1, hz2, hz3⟩ := numAt_nat b k
            have GG := HG.out k hlt
            rw [hz2] at GG
            have ns : numsOf b k ++ [(z : Int)] = numsOf b (k + 1) := by rw [numsOf_succ, hz1]
            have NS := hideIt ns
            have zi : (z : Int) < 4294967296 := by rw [show 256 ^ 4 = 4294967296 from rfl] at hz3; omega
            have i1 : (k : Int) < (M : Int) := by omega
            clear hz1 hz2 hz3 ns
            go_wp2_with (first
              | (with_reducible refine wpI_app rfl (.tmp 34) (.tmp 38) rfl (r + 1) _ _ _ _ rfl G3 _ _ _ _ rfl R1 (by decide) (by omega) z3 ?_; intro g5 c5 w5 q5 o5 k5)
              | (go_at_call 95; refine (GG _ _ R).mono ?_; rintro en w3 ⟨rfl, d3, g3⟩; have ba := below1 w3 (.cells #[.int .i64 (z : Int)] 3); have G3 := (G.grown_lt g3 (Nat.lt_succ_self r)).below ba; have d4 := d3.below ba; have R1 := RI.one w3 (z : Int); have z3 := Nat.le_trans (show r + 1 ≤ w3.heap.size from Nat.lt_of_lt_of_le rw_ g3.size) ba.size; have b3 := blw_step (blw_own bw g3 bw.size rlo) ba))
            rw [NS.out] at o5
            have d5 := d4.under_gc G3 (Nat.lt_succ_self r) k5
            have b5 := (GC.lower G3 (Nat.le_trans rlo (Nat.le_succ r))).under b3 k5 b3.size
            go_roundw
            case rel => exact ⟨k + 1, c5, _, by omega, by go_num, rfl, GC.of o5 q5, by rw [show 4 * (k + 1) = 4 * k + 4 by omega]; exact d5, b5, Nat.lt_of_lt_of_le z3 k5.size⟩
            case measure => simp [intOf]; omega
          · obtain rfl : M = k := by omega
            have GL := GC.lower G (Nat.le_trans rlo (Nat.le_succ r))
            rw [HLL.out] at GL
            have rI : RI wr A10 M c10 L := GL.read
            have zw := RB.below zr bw
            by_cases u1 : isListB X L = true
            · by_cases u2 : (b.drop (7 + 4 * M)).all (· == 0) = true
              · rw [u1] at IL
                rw [u2] at Z
                have FQ := hideIt (Q1.out u1 u2)
                clear u1 u2 G
                go_wp2_with (first
                  | (go_at_call 94; refine (Z _ zw).mono ?_; rintro en wx ⟨rfl, rfl⟩)
                  | (go_at_call 91; refine (IL _ _ _ rI).mono ?_; rintro en wx ⟨rfl, rfl⟩))
                go_ret3
                rw [FQ.out]
                exact ⟨_, _, _, rfl, GL, bw⟩
              · have u2' : (b.drop (7 + 4 * M)).all (· == 0) = false := by simpa using u2
                rw [u1] at IL
                rw [u2'] at Z
                have FQ := hideIt (Q3.out u2')
                clear u1 u2 u2' G
                go_wp2_with (first
                  | (go_at_call 94; refine (Z _ zw).mono ?_; rintro en wx ⟨rfl, rfl⟩)
                  | (go_at_call 91; refine (IL _ _ _ rI).mono ?_; rintro en wx ⟨rfl, rfl⟩))
                go_ret3
                rw [FQ.out]
                exact ⟨_, _, _, rfl, GC.nil _ _ _ _, bw⟩
            · have u1' : isListB X L = false := by simpa using u1
              rw [u1'] at IL
              have FQ := hideIt (Q2.out u1')
              clear u1 u1' G
              go_wp2_with (go_at_call 91; refine (IL _ _ _ rI).mono ?_; rintro en wx ⟨rfl, rfl⟩)
              go_ret3
              rw [FQ.out]
              exact ⟨_, _, _, rfl, GC.nil _ _ _ _, bw⟩
    · have R2 := okL_false_cnt (b := b) (by rw [hM]; exact hc)
      rw [R2]
      have i5 : (1021 : Int) < (M : Int) := by omega
      clear hX hM hk hc R2
      go_enter Tryz.func41, Tryz.ntmps41
      go_wp2_with (go_at_call 93; refine (R' _ h).mono ?_; rintro en w1 ⟨rfl, b1⟩)
      go_ret3
      exact ⟨_, _, _, rfl, GC.nil _ _ _ _, b1⟩
  · have hk' : isKind 4 b = false := by simpa using hk
    have R' : ∀ W, RB W A n c b → Calls Tryz.prog 93 #[.int .u8 4, .slice A n c] W fun e W' => ∃ x m : Nat, e = .returned (.tuple #[.int .i64 (x : Int), .int .i64 (m : Int), .bool false]) ∧ Below W.heap.size W W' := by
      intro W q
      refine (R W q).mono ?_
      rintro e W' ⟨x, m, rfl, hxm, bb⟩
      rw [hk']
      exact ⟨x, m, rfl, bb⟩
    rw [okL_false_kind hk']
    clear hk hk' R
    go_enter Tryz.func41, Tryz.ntmps41
    go_wp2_with (go_at_call 93; refine (R' _ h).mono ?_; rintro en w1 ⟨x, m, rfl, b1⟩)
    go_ret3
    exact ⟨_, _, _, rfl, GC.nil _ _ _ _, b1⟩
end Go.Proofs.YtmeakhiiebeneaaGreatDoor
