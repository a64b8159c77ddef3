/- coppiceref6: DecodeData, DecodeList. -/
import Derived.Test.YthahedpkefojdaaNj
import Derived.Test.YthahedpkefojdaaNg
namespace Go.Proofs.Ythahedpkefojdaa
open Go.RowKit

theorem decD_of {b : List UInt8} (h : okD b = true) : decD b = (nextOf b, dataOf b, 0) := by unfold decD; rw [if_pos h]
theorem decD_no {b : List UInt8} (h : ¬ okD b = true) : decD b = (0, [], 60) := by unfold decD; rw [if_neg h]
theorem decL_of {b : List UInt8} (h : okL b = true) : decL b = (nextOf b, numsOf b (cntOf b), 0) := by unfold decL; rw [if_pos h]
theorem decL_no {b : List UInt8} (h : ¬ okL b = true) : decL b = (0, [], 61) := by unfold decL; rw [if_neg h]
theorem okD_len {b : List UInt8} (h : ¬ b.length = 4092) : ¬ okD b = true := by
  intro q; unfold okD at q; rw [Bool.and_eq_true] at q; exact h (kind_len q.1)
theorem okL_len {b : List UInt8} (h : ¬ b.length = 4092) : ¬ okL b = true := by
  intro q; unfold okL at q; simp only [Bool.and_eq_true] at q; exact h (kind_len q.1.1)
theorem okD_cnt {b : List UInt8} (h : ¬ cntOf b ≤ 4085) : ¬ okD b = true := by
  intro q; unfold okD at q; simp only [Bool.and_eq_true] at q; exact h (isData_iff q.2.1).2.1
theorem okL_cnt {b : List UInt8} (h : ¬ cntOf b ≤ 1021) : ¬ okL b = true := by
  intro q; unfold okL at q; simp only [Bool.and_eq_true] at q; exact h (of_decide_eq_true q.1.2)

set_option maxRecDepth 100000 in
set_option maxHeartbeats 4000000 in
theorem refDecodeData_calls (A : Option Addr) (n c : Nat) (b : List UInt8) (w : World) (h : RB w A n c b) :
    Calls Try.prog 22 #[.slice A n c] w (DecDs w (decD b)) := by
  have HL := hideIt h.len
  by_cases hn : n = 4092
  · subst hn
    obtain ⟨ad, rfl, -⟩ := RB.addr h (by rw [HL.out]; decide)
    have hcap := RC.le h
    have mx : c ≤ 9223372036854775807 := by have h2 := RC.mx h; rw [maxLen_is] at h2; exact h2
    obtain ⟨X, hX⟩ : ∃ X, nextOf b = X := ⟨_, rfl⟩
    obtain ⟨M, hM⟩ : ∃ M, cntOf b = M := ⟨_, rfl⟩
    have R1 : ∀ W, RB W (some ad) 4092 c b → Calls Try.prog 37 #[.slice (some ad) 4092 c, .int .i64 1, .int .i64 4] W fun e w' => e = .returned (.int .i64 (unle ((b.drop 1).take 4) : Nat)) ∧ W = w' := fun W q => refread_calls (some ad) 4092 c b 1 4 W q (by rw [HL.out]; omega) (by omega)
    have R2 : ∀ W, RB W (some ad) 4092 c b → Calls Try.prog 37 #[.slice (some ad) 4092 c, .int .i64 5, .int .i64 2] W fun e w' => e = .returned (.int .i64 (unle ((b.drop 5).take 2) : Nat)) ∧ W = w' := fun W q => refread_calls (some ad) 4092 c b 5 2 W q (by rw [HL.out]; omega) (by omega)
    have e1 : unle ((b.drop 1).take 4) = X := hX
    have e2 : unle ((b.drop 5).take 2) = M := hM
    rw [e1] at R1
    rw [e2] at R2
    have xl : X < 4294967296 := by rw [← hX]; exact next_lt b
    have ml : M < 65536 := by rw [← hM]; exact cnt_lt b
    clear e1 e2
    by_cases hm : M ≤ 4085
    · obtain ⟨D, hD⟩ : ∃ D, dataOf b = D := ⟨_, rfl⟩
      have hdt : (b.drop 7).take M = D := by rw [← hD]; unfold dataOf; rw [hM]
      have iff_ := okD_iff b HL.out (by rw [hM]; exact hm)
      rw [hX, hD] at iff_
      have hof := fun q => decD_of (b := b) q
      have hno := fun q => decD_no (b := b) q
      rw [hX, hD] at hof
      have cut := h.cut (A' := some (ad.add 7)) 7 (7 + M) c (by omega) (by omega) (by omega) (by omega) (fun _ => rfl) (fun q => by cases q)
      simp only [Addr.add_succ'] at cut
      rw [show 7 + M - 7 = M by omega, hdt] at cut
      have cut : RB w (some ⟨ad.block, ad.off + 7, none⟩) M (c - 7) D := cut
      obtain ⟨eb, ee, hee⟩ : ∃ eb ee, encDS (X : Int) D = (eb, ee) := ⟨_, _, rfl⟩
      have EN := fun W A' n' c' (q : RB W A' n' c' D) => refEncodeData_calls (X : Int) A' n' c' D W q
      rw [hee] at EN iff_
      have i1 : (7 : Int) + (M : Int) - 7 = (M : Int) := by omega
      have i2 : (7 : Int) + (M : Int) ≤ (c : Int) := by omega
      have i3 : (7 : Int) ≤ (c : Int) := by omega
      have hc7 : ¬ c = 7 := by omega
      have e3 : ((7 : Int) + (M : Int)).toNat = 7 + M := by omega
      have m85 : (M : Int) ≤ 4085 := by omega
      by_cases hok : okD b = true
      · have hb := iff_.1 hok
        injection hb with hb1 hb2
        subst hb1
        subst hb2
        rw [hof hok]
        clear hof hno iff_ hok hee hX hM hD hdt
        go_enter Try.func22, Try.ntmps22
        go_upto_region 7 with (first
          | (go_at_call 37; (with_reducible refine (R2 _ h).mono ?_); rintro en wx ⟨rfl, rfl⟩)
          | (go_at_call 37; (with_reducible refine (R1 _ h).mono ?_); rintro en wx ⟨rfl, rfl⟩))
        go_upto_region 8 with (go_at_call 34; refine (Bytes_calls _ _ _ _ _ cut (by omega)).mono ?_; rintro en w1 ⟨g1, c1, rfl, s1, o1, b1⟩)
        have h1 := h.below b1
        go_upto_region 9 with (go_at_call 11; refine (EN _ _ _ _ o1.read).mono ?_; rintro en w2 ⟨A2, m2, c2, rfl, q2, bb2⟩)
        have o2 := o1.below bb2
        have b2 := blw_step b1 bb2
        have h2 := h1.below bb2
        go_wp2_with (go_at_call 12; refine (SameBytes_calls _ _ _ _ _ _ _ _ _ q2.read h2 true (by simp)).mono ?_; rintro en wx ⟨rfl, rfl⟩)
        go_ret3
        exact ⟨_, _, _, rfl, GB.of o2 s1, b2⟩
      · rw [hno hok]
        by_cases he : ee = 0
        · subst he
          have hne : decide (eb = b) = false := decide_eq_false (fun q => hok (iff_.2 (by rw [q])))
          clear hof hno iff_ hok hee hX hM hD hdt
          go_enter Try.func22, Try.ntmps22
          go_upto_region 7 with (first
            | (go_at_call 37; (with_reducible refine (R2 _ h).mono ?_); rintro en wx ⟨rfl, rfl⟩)
            | (go_at_call 37; (with_reducible refine (R1 _ h).mono ?_); rintro en wx ⟨rfl, rfl⟩))
          go_upto_region 8 with (go_at_call 34; refine (Bytes_calls _ _ _ _ _ cut (by omega)).mono ?_; rintro en w1 ⟨g1, c1, rfl, s1, o1, b1⟩)
          have h1 := h.below b1
          go_upto_region 9 with (go_at_call 11; refine (EN _ _ _ _ o1.read).mono ?_; rintro en w2 ⟨A2, m2, c2, rfl, q2, bb2⟩)
          have b2 := blw_step b1 bb2
          have h2 := h1.below bb2
          have SB := SameBytes_calls _ _ _ _ _ _ _ _ _ q2.read h2 false hne.symm
          clear hne
          go_wp2_with (go_at_call 12; refine SB.mono ?_; rintro en wx ⟨rfl, rfl⟩)
          go_ret3
          exact ⟨_, _, _, rfl, GB.none_ _ _, b2⟩
        · have he' : (ee != 0) = true := by rw [bne_iff_ne]; exact he
          clear hof hno iff_ hok hee hX hM hD hdt he
          go_enter Try.func22, Try.ntmps22
          go_upto_region 7 with (first
            | (go_at_call 37; (with_reducible refine (R2 _ h).mono ?_); rintro en wx ⟨rfl, rfl⟩)
            | (go_at_call 37; (with_reducible refine (R1 _ h).mono ?_); rintro en wx ⟨rfl, rfl⟩))
          go_upto_region 8 with (go_at_call 34; refine (Bytes_calls _ _ _ _ _ cut (by omega)).mono ?_; rintro en w1 ⟨g1, c1, rfl, s1, o1, b1⟩)
          have h1 := h.below b1
          go_upto_region 9 with (go_at_call 11; refine (EN _ _ _ _ o1.read).mono ?_; rintro en w2 ⟨A2, m2, c2, rfl, q2, bb2⟩)
          have b2 := blw_step b1 bb2
          have h2 := h1.below bb2
          have SB := SameBytes_calls _ _ _ _ _ _ _ _ _ q2.read h2 _ rfl
          go_wp2_with (go_at_call 12; refine SB.mono ?_; rintro en wx ⟨rfl, rfl⟩)
          go_ret3
          exact ⟨_, _, _, rfl, GB.none_ _ _, b2⟩
    · rw [decD_no (okD_cnt (by rw [hM]; exact hm))]
      have m85 : (4085 : Int) < (M : Int) := by omega
      clear hX hM hm
      go_enter Try.func22, Try.ntmps22
      go_wp2_with (first
        | (go_at_call 37; (with_reducible refine (R2 _ h).mono ?_); rintro en wx ⟨rfl, rfl⟩)
        | (go_at_call 37; (with_reducible refine (R1 _ h).mono ?_); rintro en wx ⟨rfl, rfl⟩))
      go_ret3
      exact ⟨_, _, _, rfl, GB.none_ _ _, Below.refl _ _⟩
  · rw [decD_no (okD_len (by rw [HL.out]; exact hn))]
    have e0 : ((n : Int) == 4092) = false := beq_eq_false_iff_ne.2 (by omega)
    have e1 : ((n : Int) != 4092) = true := by simp only [bne, e0]; rfl
    clear hn
    go_enter Try.func22, Try.ntmps22
    go_wp2
    go_ret3
    exact ⟨_, _, _, rfl, GB.none_ _ _, Below.refl _ _⟩

set_option maxRecDepth 100000 in
set_option maxHeartbeats 4000000 in
theorem refDecodeList_calls (A : Option Addr) (n c : Nat) (b : List UInt8) (w : World) (h : RB w A n c b) :
    Calls Try.prog 24 #[.slice A n c] w (DecLs w (decL b)) := by
  have HL := hideIt h.len
  by_cases hn : n = 4092
  · subst hn
    obtain ⟨ad, rfl, -⟩ := RB.addr h (by rw [HL.out]; decide)
    obtain ⟨X, hX⟩ : ∃ X, nextOf b = X := ⟨_, rfl⟩
    obtain ⟨M, hM⟩ : ∃ M, cntOf b = M := ⟨_, rfl⟩
    have R1 : ∀ W, RB W (some ad) 4092 c b → Calls Try.prog 37 #[.slice (some ad) 4092 c, .int .i64 1, .int .i64 4] W fun e w' => e = .returned (.int .i64 (unle ((b.drop 1).take 4) : Nat)) ∧ W = w' := fun W q => refread_calls (some ad) 4092 c b 1 4 W q (by rw [HL.out]; omega) (by omega)
    have R2 : ∀ W, RB W (some ad) 4092 c b → Calls Try.prog 37 #[.slice (some ad) 4092 c, .int .i64 5, .int .i64 2] W fun e w' => e = .returned (.int .i64 (unle ((b.drop 5).take 2) : Nat)) ∧ W = w' := fun W q => refread_calls (some ad) 4092 c b 5 2 W q (by rw [HL.out]; omega) (by omega)
    have e1 : unle ((b.drop 1).take 4) = X := hX
    have e2 : unle ((b.drop 5).take 2) = M := hM
    rw [e1] at R1
    rw [e2] at R2
    have xl : X < 4294967296 := by rw [← hX]; exact next_lt b
    have ml : M < 65536 := by rw [← hM]; exact cnt_lt b
    clear e1 e2
    by_cases hm : M ≤ 1021
    · obtain ⟨L, hLL⟩ : ∃ L, numsOf b M = L := ⟨_, rfl⟩
      have iff_ := okL_iff b HL.out (by rw [hM]; exact hm)
      have hof := fun q => decL_of (b := b) q
      have hno := fun q => decL_no (b := b) q
      rw [hM, hLL, hX] at iff_ hof
      obtain ⟨eb, ee, hee⟩ : ∃ eb ee, encLS (X : Int) L = (eb, ee) := ⟨_, _, rfl⟩
      have EN := fun W A' n' c' (q : RI W A' n' c' L) => refEncodeList_calls (X : Int) A' n' c' L W q
      rw [hee] at EN iff_
      have m85 : (M : Int) ≤ 1021 := by omega
      have R4 := fun k (hk : k < M) W q => refread_calls (some ad) 4092 c b (7 + 4 * k) 4 W q (by rw [HL.out]; omega) (by omega)
      have HR4 := hideIt R4
      have HLL := hideIt hLL
      have FIN : Hid ((okL b = true → decL b = (X, L, 0)) ∧ (¬ okL b = true → decL b = (0, [], 61)) ∧ (okL b = true ↔ (eb, ee) = (b, 0))) := hideIt ⟨hof, hno, iff_⟩
      clear hof hno iff_ hee hX hM hLL R4
      go_enter Try.func24, Try.ntmps24
      go_upto_region 7 with (first
        | (go_at_call 37; (with_reducible refine (R2 _ h).mono ?_); rintro en wx ⟨rfl, rfl⟩)
        | (go_at_call 37; (with_reducible refine (R1 _ h).mono ?_); rintro en wx ⟨rfl, rfl⟩))
      clear R1 R2
      go_wp2
      go_loopw [7, 8] (fun ll kk wr => ∃ (k c10 : Nat) (A10 : Option Addr), k ≤ M ∧ kk = .int .i64 (k : Int) ∧ ll = .slice A10 k c10 ∧ GC wr w.heap.size 3 1 A10 k c10 (i64s (numsOf b k)) ∧ Below w.heap.size w wr)
        (fun _ kk _ => M - (intOf kk).toNat)
      case atStart => exact ⟨0, 0, none, by omega, rfl, rfl, GC.nil _ _ _ _, Below.refl _ _⟩
      case round =>
        obtain ⟨k, c10, A10, hkM, rfl, rfl, G, bw⟩ := hrel
        by_cases hlt : k < M
        · obtain ⟨z, hz1, hz2, hz3⟩ := numAt_nat b k
          have GG := fun q => HR4.out k hlt wr q
          rw [hz2] at GG
          have ns : numsOf b k ++ [(z : Int)] = numsOf b (k + 1) := by rw [numsOf_succ, hz1]
          have NS := hideIt ns
          have i1 : (k : Int) < (M : Int) := by omega
          have GG' : RB wr (some ad) 4092 c b → Calls Try.prog 37 #[.slice (some ad) 4092 c, .int .i64 (7 + 4 * (k : Int)), .int .i64 4] wr fun e w' => e = .returned (.int .i64 (z : Int)) ∧ wr = w' := by
            intro q
            have := GG q
            rwa [show ((7 + 4 * k : Nat) : Int) = 7 + 4 * (k : Int) by omega] at this
          have hw := h.below bw
          have ba := below1 wr (.cells #[.int .i64 (z : Int)] 3)
          have Ga := G.below ba
          have b2 := blw_step bw ba
          have R1 := RI.one wr (z : Int)
          clear hz1 hz2 hz3 ns GG
          go_wp2_with (first
            | (with_reducible refine wpI_app rfl (.tmp 32) (.tmp 34) rfl w.heap.size _ _ _ _ rfl Ga _ _ _ _ rfl R1 (by decide) (by omega) b2.size ?_; intro g5 c5 w5 q5 o5 k5)
            | (go_at_call 37; refine (GG' hw).mono ?_; rintro en wx ⟨rfl, rfl⟩))
          rw [NS.out] at o5
          have b5 := GC.under Ga b2 k5 b2.size
          go_roundw
          case rel => exact ⟨k + 1, c5, _, by omega, by go_num, rfl, GC.of o5 q5, b5⟩
          case measure => simp [intOf]; omega
        · obtain rfl : M = k := by omega
          rw [HLL.out] at G
          have rI : RI wr A10 M c10 L := GC.read G
          have hw := h.below bw
          obtain ⟨hof, hno, iff_⟩ := FIN.out
          have FO := hideIt hof
          have FN := hideIt hno
          by_cases hok : okL b = true
          · have hb := iff_.1 hok
            injection hb with hb1 hb2
            subst hb1
            subst hb2
            have EQ := hideIt (hof hok)
            clear hof hno iff_ hok FIN FO FN
            go_upto_region 14 with (go_at_call 15; refine (EN _ _ _ _ rI).mono ?_; rintro en w2 ⟨A2, m2, c2, rfl, q2, bb2⟩)
            have G2 := G.below bb2
            have b2 := blw_step bw bb2
            have h2 := hw.below bb2
            go_wp2_with (go_at_call 12; refine (SameBytes_calls _ _ _ _ _ _ _ _ _ q2.read h2 true (by simp)).mono ?_; rintro en wx ⟨rfl, rfl⟩)
            go_ret3
            rw [EQ.out]
            exact ⟨_, _, _, rfl, G2, b2⟩
          · have EQ := hideIt (hno hok)
            by_cases he : ee = 0
            · subst he
              have hne : decide (eb = b) = false := decide_eq_false (fun q => hok (iff_.2 (by rw [q])))
              clear hof hno iff_ hok FIN FO FN
              go_upto_region 14 with (go_at_call 15; refine (EN _ _ _ _ rI).mono ?_; rintro en w2 ⟨A2, m2, c2, rfl, q2, bb2⟩)
              have b2 := blw_step bw bb2
              have h2 := hw.below bb2
              have SB := SameBytes_calls _ _ _ _ _ _ _ _ _ q2.read h2 false hne.symm
              clear hne
              go_wp2_with (go_at_call 12; refine SB.mono ?_; rintro en wx ⟨rfl, rfl⟩)
              go_ret3
              rw [EQ.out]
              exact ⟨_, _, _, rfl, GC.nil _ _ _ _, b2⟩
            · have he' : (ee != 0) = true := by rw [bne_iff_ne]; exact he
              clear hof hno iff_ hok FIN FO FN he
              go_upto_region 14 with (go_at_call 15; refine (EN _ _ _ _ rI).mono ?_; rintro en w2 ⟨A2, m2, c2, rfl, q2, bb2⟩)
              have b2 := blw_step bw bb2
              have h2 := hw.below bb2
              have SB := SameBytes_calls _ _ _ _ _ _ _ _ _ q2.read h2 _ rfl
              go_wp2_with (go_at_call 12; refine SB.mono ?_; rintro en wx ⟨rfl, rfl⟩)
              go_ret3
              rw [EQ.out]
              exact ⟨_, _, _, rfl, GC.nil _ _ _ _, b2⟩
    · rw [decL_no (okL_cnt (by rw [hM]; exact hm))]
      have m85 : (1021 : Int) < (M : Int) := by omega
      clear hX hM hm
      go_enter Try.func24, Try.ntmps24
      go_wp2_with (first
        | (go_at_call 37; (with_reducible refine (R2 _ h).mono ?_); rintro en wx ⟨rfl, rfl⟩)
        | (go_at_call 37; (with_reducible refine (R1 _ h).mono ?_); rintro en wx ⟨rfl, rfl⟩))
      go_ret3
      exact ⟨_, _, _, rfl, GC.nil _ _ _ _, Below.refl _ _⟩
  · rw [decL_no (okL_len (by rw [HL.out]; exact hn))]
    have e0 : ((n : Int) == 4092) = false := beq_eq_false_iff_ne.2 (by omega)
    have e1 : ((n : Int) != 4092) = true := by simp only [bne, e0]; rfl
    clear hn
    go_enter Try.func24, Try.ntmps24
    go_wp2
    go_ret3
    exact ⟨_, _, _, rfl, GC.nil _ _ _ _, Below.refl _ _⟩
end Go.Proofs.Ythahedpkefojdaa
